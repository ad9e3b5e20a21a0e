/- A part of the proof of a law of module cupola: Types. It has no conditions of its own. -/
import Derived.Test.YtkfceeaokfdmfaaDoorSimE
import Derived.Test.YtkfceeaokfdmfaaDoorSimUu
import Derived.Test.YtkfceeaokfdmfaaDoorOrcs
import Derived.Test.YtkfceeaokfdmfaaDoorProg
import Derived.KernelRfl
set_option linter.all false
namespace Go.Sim
open Enc (enc)
open Go.Proofs
@[go_sem] theorem kd0 : kdOf Tryd.prog 0 = .other := by kernel_rfl
@[go_sem] theorem ty0 : tyOf Tryd.prog 0 = some (false, 1) := by kernel_rfl
@[go_sem] theorem in0 : infoOf Tryd.prog 0 = some (1, 0) := by kernel_rfl
@[go_sem] theorem ct0 : cutTy Tryd.prog 0 = false := by kernel_rfl
@[go_sem] theorem so0 : solid Tryd.prog 0 = true := by kernel_rfl
@[go_sem] theorem kd1 : kdOf Tryd.prog 1 = .fn := by kernel_rfl
@[go_sem] theorem ty1 : tyOf Tryd.prog 1 = some (false, 1) := by kernel_rfl
@[go_sem] theorem in1 : infoOf Tryd.prog 1 = some (1, 8) := by kernel_rfl
@[go_sem] theorem ct1 : cutTy Tryd.prog 1 = false := by kernel_rfl
@[go_sem] theorem so1 : solid Tryd.prog 1 = true := by kernel_rfl
@[go_sem] theorem ze1 : zeroV Tryd.prog 1 = some (.t .nilf) := by kernel_rfl
@[go_sem] theorem kd2 : kdOf Tryd.prog 2 = (.int .i64) := by kernel_rfl
@[go_sem] theorem ty2 : tyOf Tryd.prog 2 = some (false, 1) := by kernel_rfl
@[go_sem] theorem in2 : infoOf Tryd.prog 2 = some (1, 8) := by kernel_rfl
@[go_sem] theorem ct2 : cutTy Tryd.prog 2 = false := by kernel_rfl
@[go_sem] theorem so2 : solid Tryd.prog 2 = true := by kernel_rfl
@[go_sem] theorem ze2 : zeroV Tryd.prog 2 = some (.t (.int .i64 0)) := by kernel_rfl
@[go_sem] theorem kd3 : kdOf Tryd.prog 3 = (.int .i64) := by kernel_rfl
@[go_sem] theorem ty3 : tyOf Tryd.prog 3 = some (false, 1) := by kernel_rfl
@[go_sem] theorem in3 : infoOf Tryd.prog 3 = some (1, 8) := by kernel_rfl
@[go_sem] theorem ct3 : cutTy Tryd.prog 3 = false := by kernel_rfl
@[go_sem] theorem so3 : solid Tryd.prog 3 = true := by kernel_rfl
@[go_sem] theorem ze3 : zeroV Tryd.prog 3 = some (.t (.int .i64 0)) := by kernel_rfl
@[go_sem] theorem kd4 : kdOf Tryd.prog 4 = .bool := by kernel_rfl
@[go_sem] theorem ty4 : tyOf Tryd.prog 4 = some (false, 1) := by kernel_rfl
@[go_sem] theorem in4 : infoOf Tryd.prog 4 = some (1, 1) := by kernel_rfl
@[go_sem] theorem ct4 : cutTy Tryd.prog 4 = false := by kernel_rfl
@[go_sem] theorem so4 : solid Tryd.prog 4 = true := by kernel_rfl
@[go_sem] theorem ze4 : zeroV Tryd.prog 4 = some (.t (.bool false)) := by kernel_rfl
@[go_sem] theorem kd5 : kdOf Tryd.prog 5 = (.int .u8) := by kernel_rfl
@[go_sem] theorem ty5 : tyOf Tryd.prog 5 = some (false, 1) := by kernel_rfl
@[go_sem] theorem in5 : infoOf Tryd.prog 5 = some (1, 1) := by kernel_rfl
@[go_sem] theorem ct5 : cutTy Tryd.prog 5 = false := by kernel_rfl
@[go_sem] theorem so5 : solid Tryd.prog 5 = true := by kernel_rfl
@[go_sem] theorem ze5 : zeroV Tryd.prog 5 = some (.t (.int .u8 0)) := by kernel_rfl
@[go_sem] theorem kd6 : kdOf Tryd.prog 6 = (.int .u8) := by kernel_rfl
@[go_sem] theorem ty6 : tyOf Tryd.prog 6 = some (false, 1) := by kernel_rfl
@[go_sem] theorem in6 : infoOf Tryd.prog 6 = some (1, 1) := by kernel_rfl
@[go_sem] theorem ct6 : cutTy Tryd.prog 6 = false := by kernel_rfl
@[go_sem] theorem so6 : solid Tryd.prog 6 = true := by kernel_rfl
@[go_sem] theorem ze6 : zeroV Tryd.prog 6 = some (.t (.int .u8 0)) := by kernel_rfl
@[go_sem] theorem kd7 : kdOf Tryd.prog 7 = .struct := by kernel_rfl
@[go_sem] theorem ty7 : tyOf Tryd.prog 7 = some (true, 4) := by kernel_rfl
@[go_sem] theorem in7 : infoOf Tryd.prog 7 = some (4, 24) := by kernel_rfl
@[go_sem] theorem ct7 : cutTy Tryd.prog 7 = false := by kernel_rfl
@[go_sem] theorem so7 : solid Tryd.prog 7 = true := by kernel_rfl
@[go_sem] theorem ze7 : zeroV Tryd.prog 7 = some (.t (.agg [(.int .i64 0), (.int .i64 0), (.bool false), (.int .u8 0)])) := by kernel_rfl
@[go_sem] theorem fs7 : fldsOf Tryd.prog 7 = some [(0, 1), (1, 1), (2, 1), (3, 1)] := by kernel_rfl
@[go_sem] theorem ff7x0 : fld1 Tryd.prog 7 0 = some 0 := by kernel_rfl
@[go_sem] theorem fl7x0 : fldOf Tryd.prog 7 0 = some (0, 1) := by kernel_rfl
@[go_sem] theorem ff7x1 : fld1 Tryd.prog 7 1 = some 1 := by kernel_rfl
@[go_sem] theorem fl7x1 : fldOf Tryd.prog 7 1 = some (1, 1) := by kernel_rfl
@[go_sem] theorem ff7x2 : fld1 Tryd.prog 7 2 = some 2 := by kernel_rfl
@[go_sem] theorem fl7x2 : fldOf Tryd.prog 7 2 = some (2, 1) := by kernel_rfl
@[go_sem] theorem ff7x3 : fld1 Tryd.prog 7 3 = some 3 := by kernel_rfl
@[go_sem] theorem fl7x3 : fldOf Tryd.prog 7 3 = some (3, 1) := by kernel_rfl
@[go_sem] theorem kd8 : kdOf Tryd.prog 8 = .struct := by kernel_rfl
@[go_sem] theorem ty8 : tyOf Tryd.prog 8 = some (true, 4) := by kernel_rfl
@[go_sem] theorem in8 : infoOf Tryd.prog 8 = some (4, 24) := by kernel_rfl
@[go_sem] theorem ct8 : cutTy Tryd.prog 8 = false := by kernel_rfl
@[go_sem] theorem so8 : solid Tryd.prog 8 = true := by kernel_rfl
@[go_sem] theorem ze8 : zeroV Tryd.prog 8 = some (.t (.agg [(.int .i64 0), (.int .i64 0), (.bool false), (.int .u8 0)])) := by kernel_rfl
@[go_sem] theorem fs8 : fldsOf Tryd.prog 8 = some [(0, 1), (1, 1), (2, 1), (3, 1)] := by kernel_rfl
@[go_sem] theorem ff8x0 : fld1 Tryd.prog 8 0 = some 0 := by kernel_rfl
@[go_sem] theorem fl8x0 : fldOf Tryd.prog 8 0 = some (0, 1) := by kernel_rfl
@[go_sem] theorem ff8x1 : fld1 Tryd.prog 8 1 = some 1 := by kernel_rfl
@[go_sem] theorem fl8x1 : fldOf Tryd.prog 8 1 = some (1, 1) := by kernel_rfl
@[go_sem] theorem ff8x2 : fld1 Tryd.prog 8 2 = some 2 := by kernel_rfl
@[go_sem] theorem fl8x2 : fldOf Tryd.prog 8 2 = some (2, 1) := by kernel_rfl
@[go_sem] theorem ff8x3 : fld1 Tryd.prog 8 3 = some 3 := by kernel_rfl
@[go_sem] theorem fl8x3 : fldOf Tryd.prog 8 3 = some (3, 1) := by kernel_rfl
@[go_sem] theorem kd9 : kdOf Tryd.prog 9 = .str := by kernel_rfl
@[go_sem] theorem ty9 : tyOf Tryd.prog 9 = some (false, 1) := by kernel_rfl
@[go_sem] theorem in9 : infoOf Tryd.prog 9 = some (1, 16) := by kernel_rfl
@[go_sem] theorem ct9 : cutTy Tryd.prog 9 = false := by kernel_rfl
@[go_sem] theorem so9 : solid Tryd.prog 9 = true := by kernel_rfl
@[go_sem] theorem ze9 : zeroV Tryd.prog 9 = some (.t (.str ByteArray.empty)) := by kernel_rfl
@[go_sem] theorem kd10 : kdOf Tryd.prog 10 = .str := by kernel_rfl
@[go_sem] theorem ty10 : tyOf Tryd.prog 10 = some (false, 1) := by kernel_rfl
@[go_sem] theorem in10 : infoOf Tryd.prog 10 = some (1, 16) := by kernel_rfl
@[go_sem] theorem ct10 : cutTy Tryd.prog 10 = false := by kernel_rfl
@[go_sem] theorem so10 : solid Tryd.prog 10 = true := by kernel_rfl
@[go_sem] theorem ze10 : zeroV Tryd.prog 10 = some (.t (.str ByteArray.empty)) := by kernel_rfl
@[go_sem] theorem kd11 : kdOf Tryd.prog 11 = .str := by kernel_rfl
@[go_sem] theorem ty11 : tyOf Tryd.prog 11 = some (false, 1) := by kernel_rfl
@[go_sem] theorem in11 : infoOf Tryd.prog 11 = some (1, 16) := by kernel_rfl
@[go_sem] theorem ct11 : cutTy Tryd.prog 11 = false := by kernel_rfl
@[go_sem] theorem so11 : solid Tryd.prog 11 = true := by kernel_rfl
@[go_sem] theorem ze11 : zeroV Tryd.prog 11 = some (.t (.str ByteArray.empty)) := by kernel_rfl
@[go_sem] theorem kd12 : kdOf Tryd.prog 12 = (.int .u64) := by kernel_rfl
@[go_sem] theorem ty12 : tyOf Tryd.prog 12 = some (false, 1) := by kernel_rfl
@[go_sem] theorem in12 : infoOf Tryd.prog 12 = some (1, 8) := by kernel_rfl
@[go_sem] theorem ct12 : cutTy Tryd.prog 12 = false := by kernel_rfl
@[go_sem] theorem so12 : solid Tryd.prog 12 = true := by kernel_rfl
@[go_sem] theorem ze12 : zeroV Tryd.prog 12 = some (.t (.int .u64 0)) := by kernel_rfl
@[go_sem] theorem kd13 : kdOf Tryd.prog 13 = .struct := by kernel_rfl
@[go_sem] theorem ty13 : tyOf Tryd.prog 13 = some (true, 2) := by kernel_rfl
@[go_sem] theorem in13 : infoOf Tryd.prog 13 = some (2, 24) := by kernel_rfl
@[go_sem] theorem ct13 : cutTy Tryd.prog 13 = false := by kernel_rfl
@[go_sem] theorem so13 : solid Tryd.prog 13 = true := by kernel_rfl
@[go_sem] theorem ze13 : zeroV Tryd.prog 13 = some (.t (.agg [(.str ByteArray.empty), (.int .u64 0)])) := by kernel_rfl
@[go_sem] theorem fs13 : fldsOf Tryd.prog 13 = some [(0, 1), (1, 1)] := by kernel_rfl
@[go_sem] theorem ff13x0 : fld1 Tryd.prog 13 0 = some 0 := by kernel_rfl
@[go_sem] theorem fl13x0 : fldOf Tryd.prog 13 0 = some (0, 1) := by kernel_rfl
@[go_sem] theorem ff13x1 : fld1 Tryd.prog 13 1 = some 1 := by kernel_rfl
@[go_sem] theorem fl13x1 : fldOf Tryd.prog 13 1 = some (1, 1) := by kernel_rfl
@[go_sem] theorem kd14 : kdOf Tryd.prog 14 = .struct := by kernel_rfl
@[go_sem] theorem ty14 : tyOf Tryd.prog 14 = some (true, 2) := by kernel_rfl
@[go_sem] theorem in14 : infoOf Tryd.prog 14 = some (2, 24) := by kernel_rfl
@[go_sem] theorem ct14 : cutTy Tryd.prog 14 = false := by kernel_rfl
@[go_sem] theorem so14 : solid Tryd.prog 14 = true := by kernel_rfl
@[go_sem] theorem ze14 : zeroV Tryd.prog 14 = some (.t (.agg [(.str ByteArray.empty), (.int .u64 0)])) := by kernel_rfl
@[go_sem] theorem fs14 : fldsOf Tryd.prog 14 = some [(0, 1), (1, 1)] := by kernel_rfl
@[go_sem] theorem ff14x0 : fld1 Tryd.prog 14 0 = some 0 := by kernel_rfl
@[go_sem] theorem fl14x0 : fldOf Tryd.prog 14 0 = some (0, 1) := by kernel_rfl
@[go_sem] theorem ff14x1 : fld1 Tryd.prog 14 1 = some 1 := by kernel_rfl
@[go_sem] theorem fl14x1 : fldOf Tryd.prog 14 1 = some (1, 1) := by kernel_rfl
@[go_sem] theorem kd15 : kdOf Tryd.prog 15 = .ptr := by kernel_rfl
@[go_sem] theorem ty15 : tyOf Tryd.prog 15 = some (false, 1) := by kernel_rfl
@[go_sem] theorem in15 : infoOf Tryd.prog 15 = some (1, 8) := by kernel_rfl
@[go_sem] theorem ct15 : cutTy Tryd.prog 15 = false := by kernel_rfl
@[go_sem] theorem so15 : solid Tryd.prog 15 = true := by kernel_rfl
@[go_sem] theorem me15xError : methOf Tryd.prog 15 "Error" = some (156, none) := by kernel_rfl
@[go_sem] theorem me15xRuntimeError : methOf Tryd.prog 15 "RuntimeError" = some (157, none) := by kernel_rfl
@[go_sem] theorem ze15 : zeroV Tryd.prog 15 = some (.t .nilp) := by kernel_rfl
@[go_sem] theorem kd16 : kdOf Tryd.prog 16 = .ptr := by kernel_rfl
@[go_sem] theorem ty16 : tyOf Tryd.prog 16 = some (false, 1) := by kernel_rfl
@[go_sem] theorem in16 : infoOf Tryd.prog 16 = some (1, 8) := by kernel_rfl
@[go_sem] theorem ct16 : cutTy Tryd.prog 16 = false := by kernel_rfl
@[go_sem] theorem so16 : solid Tryd.prog 16 = true := by kernel_rfl
@[go_sem] theorem me16xError : methOf Tryd.prog 16 "Error" = some (158, none) := by kernel_rfl
@[go_sem] theorem me16xRuntimeError : methOf Tryd.prog 16 "RuntimeError" = some (159, none) := by kernel_rfl
@[go_sem] theorem ze16 : zeroV Tryd.prog 16 = some (.t .nilp) := by kernel_rfl
@[go_sem] theorem kd17 : kdOf Tryd.prog 17 = .ptr := by kernel_rfl
@[go_sem] theorem ty17 : tyOf Tryd.prog 17 = some (false, 1) := by kernel_rfl
@[go_sem] theorem in17 : infoOf Tryd.prog 17 = some (1, 8) := by kernel_rfl
@[go_sem] theorem ct17 : cutTy Tryd.prog 17 = false := by kernel_rfl
@[go_sem] theorem so17 : solid Tryd.prog 17 = true := by kernel_rfl
@[go_sem] theorem me17xAlign : methOf Tryd.prog 17 "Align" = some (160, none) := by kernel_rfl
@[go_sem] theorem me17xLen : methOf Tryd.prog 17 "Len" = some (161, none) := by kernel_rfl
@[go_sem] theorem ze17 : zeroV Tryd.prog 17 = some (.t .nilp) := by kernel_rfl
@[go_sem] theorem kd18 : kdOf Tryd.prog 18 = .struct := by kernel_rfl
@[go_sem] theorem ty18 : tyOf Tryd.prog 18 = some (true, 1) := by kernel_rfl
@[go_sem] theorem in18 : infoOf Tryd.prog 18 = some (1, 8) := by kernel_rfl
@[go_sem] theorem ct18 : cutTy Tryd.prog 18 = false := by kernel_rfl
@[go_sem] theorem so18 : solid Tryd.prog 18 = true := by kernel_rfl
@[go_sem] theorem ze18 : zeroV Tryd.prog 18 = some (.t (.agg [.nilp])) := by kernel_rfl
@[go_sem] theorem fs18 : fldsOf Tryd.prog 18 = some [(0, 1)] := by kernel_rfl
@[go_sem] theorem ff18x0 : fld1 Tryd.prog 18 0 = some 0 := by kernel_rfl
@[go_sem] theorem fl18x0 : fldOf Tryd.prog 18 0 = some (0, 1) := by kernel_rfl
@[go_sem] theorem kd19 : kdOf Tryd.prog 19 = .struct := by kernel_rfl
@[go_sem] theorem ty19 : tyOf Tryd.prog 19 = some (true, 1) := by kernel_rfl
@[go_sem] theorem in19 : infoOf Tryd.prog 19 = some (1, 8) := by kernel_rfl
@[go_sem] theorem ct19 : cutTy Tryd.prog 19 = false := by kernel_rfl
@[go_sem] theorem so19 : solid Tryd.prog 19 = true := by kernel_rfl
@[go_sem] theorem ze19 : zeroV Tryd.prog 19 = some (.t (.agg [.nilp])) := by kernel_rfl
@[go_sem] theorem fs19 : fldsOf Tryd.prog 19 = some [(0, 1)] := by kernel_rfl
@[go_sem] theorem ff19x0 : fld1 Tryd.prog 19 0 = some 0 := by kernel_rfl
@[go_sem] theorem fl19x0 : fldOf Tryd.prog 19 0 = some (0, 1) := by kernel_rfl
@[go_sem] theorem kd20 : kdOf Tryd.prog 20 = .other := by kernel_rfl
@[go_sem] theorem ty20 : tyOf Tryd.prog 20 = some (false, 1) := by kernel_rfl
@[go_sem] theorem in20 : infoOf Tryd.prog 20 = some (1, 16) := by kernel_rfl
@[go_sem] theorem ct20 : cutTy Tryd.prog 20 = false := by kernel_rfl
@[go_sem] theorem ze20 : zeroV Tryd.prog 20 = some (.t .nili) := by kernel_rfl
@[go_sem] theorem kd21 : kdOf Tryd.prog 21 = (.int .i32) := by kernel_rfl
@[go_sem] theorem ty21 : tyOf Tryd.prog 21 = some (false, 1) := by kernel_rfl
@[go_sem] theorem in21 : infoOf Tryd.prog 21 = some (1, 4) := by kernel_rfl
@[go_sem] theorem ct21 : cutTy Tryd.prog 21 = false := by kernel_rfl
@[go_sem] theorem so21 : solid Tryd.prog 21 = true := by kernel_rfl
@[go_sem] theorem ze21 : zeroV Tryd.prog 21 = some (.t (.int .i32 0)) := by kernel_rfl
@[go_sem] theorem kd22 : kdOf Tryd.prog 22 = (.int .u32) := by kernel_rfl
@[go_sem] theorem ty22 : tyOf Tryd.prog 22 = some (false, 1) := by kernel_rfl
@[go_sem] theorem in22 : infoOf Tryd.prog 22 = some (1, 4) := by kernel_rfl
@[go_sem] theorem ct22 : cutTy Tryd.prog 22 = false := by kernel_rfl
@[go_sem] theorem so22 : solid Tryd.prog 22 = true := by kernel_rfl
@[go_sem] theorem ze22 : zeroV Tryd.prog 22 = some (.t (.int .u32 0)) := by kernel_rfl
@[go_sem] theorem kd23 : kdOf Tryd.prog 23 = (.sl 3) := by kernel_rfl
@[go_sem] theorem ty23 : tyOf Tryd.prog 23 = some (false, 1) := by kernel_rfl
@[go_sem] theorem in23 : infoOf Tryd.prog 23 = some (1, 24) := by kernel_rfl
@[go_sem] theorem ct23 : cutTy Tryd.prog 23 = false := by kernel_rfl
@[go_sem] theorem so23 : solid Tryd.prog 23 = true := by kernel_rfl
@[go_sem] theorem ze23 : zeroV Tryd.prog 23 = some (.ex []) := by kernel_rfl
@[go_sem] theorem kd24 : kdOf Tryd.prog 24 = (.sl 23) := by kernel_rfl
@[go_sem] theorem ty24 : tyOf Tryd.prog 24 = some (false, 1) := by kernel_rfl
@[go_sem] theorem in24 : infoOf Tryd.prog 24 = some (1, 24) := by kernel_rfl
@[go_sem] theorem ct24 : cutTy Tryd.prog 24 = false := by kernel_rfl
@[go_sem] theorem so24 : solid Tryd.prog 24 = true := by kernel_rfl
@[go_sem] theorem ze24 : zeroV Tryd.prog 24 = some (.ex []) := by kernel_rfl
@[go_sem] theorem kd25 : kdOf Tryd.prog 25 = .struct := by kernel_rfl
@[go_sem] theorem ty25 : tyOf Tryd.prog 25 = some (true, 3) := by kernel_rfl
@[go_sem] theorem in25 : infoOf Tryd.prog 25 = some (3, 56) := by kernel_rfl
@[go_sem] theorem ct25 : cutTy Tryd.prog 25 = false := by kernel_rfl
@[go_sem] theorem so25 : solid Tryd.prog 25 = true := by kernel_rfl
@[go_sem] theorem ze25 : zeroV Tryd.prog 25 = some (.agg [.t (.int .u32 0), .ex [], .ex []]) := by kernel_rfl
@[go_sem] theorem fs25 : fldsOf Tryd.prog 25 = some [(0, 1), (1, 1), (2, 1)] := by kernel_rfl
@[go_sem] theorem ff25x0 : fld1 Tryd.prog 25 0 = some 0 := by kernel_rfl
@[go_sem] theorem fl25x0 : fldOf Tryd.prog 25 0 = some (0, 1) := by kernel_rfl
@[go_sem] theorem ff25x1 : fld1 Tryd.prog 25 1 = some 1 := by kernel_rfl
@[go_sem] theorem fl25x1 : fldOf Tryd.prog 25 1 = some (1, 1) := by kernel_rfl
@[go_sem] theorem ff25x2 : fld1 Tryd.prog 25 2 = some 2 := by kernel_rfl
@[go_sem] theorem fl25x2 : fldOf Tryd.prog 25 2 = some (2, 1) := by kernel_rfl
@[go_sem] theorem kd26 : kdOf Tryd.prog 26 = .struct := by kernel_rfl
@[go_sem] theorem ty26 : tyOf Tryd.prog 26 = some (true, 3) := by kernel_rfl
@[go_sem] theorem in26 : infoOf Tryd.prog 26 = some (3, 56) := by kernel_rfl
@[go_sem] theorem ct26 : cutTy Tryd.prog 26 = false := by kernel_rfl
@[go_sem] theorem so26 : solid Tryd.prog 26 = true := by kernel_rfl
@[go_sem] theorem ze26 : zeroV Tryd.prog 26 = some (.agg [.t (.int .u32 0), .ex [], .ex []]) := by kernel_rfl
@[go_sem] theorem fs26 : fldsOf Tryd.prog 26 = some [(0, 1), (1, 1), (2, 1)] := by kernel_rfl
@[go_sem] theorem ff26x0 : fld1 Tryd.prog 26 0 = some 0 := by kernel_rfl
@[go_sem] theorem fl26x0 : fldOf Tryd.prog 26 0 = some (0, 1) := by kernel_rfl
@[go_sem] theorem ff26x1 : fld1 Tryd.prog 26 1 = some 1 := by kernel_rfl
@[go_sem] theorem fl26x1 : fldOf Tryd.prog 26 1 = some (1, 1) := by kernel_rfl
@[go_sem] theorem ff26x2 : fld1 Tryd.prog 26 2 = some 2 := by kernel_rfl
@[go_sem] theorem fl26x2 : fldOf Tryd.prog 26 2 = some (2, 1) := by kernel_rfl
@[go_sem] theorem kd27 : kdOf Tryd.prog 27 = .fn := by kernel_rfl
@[go_sem] theorem ty27 : tyOf Tryd.prog 27 = some (false, 1) := by kernel_rfl
@[go_sem] theorem in27 : infoOf Tryd.prog 27 = some (1, 8) := by kernel_rfl
@[go_sem] theorem ct27 : cutTy Tryd.prog 27 = false := by kernel_rfl
@[go_sem] theorem so27 : solid Tryd.prog 27 = true := by kernel_rfl
@[go_sem] theorem ze27 : zeroV Tryd.prog 27 = some (.t .nilf) := by kernel_rfl
@[go_sem] theorem kd28 : kdOf Tryd.prog 28 = .fn := by kernel_rfl
@[go_sem] theorem ty28 : tyOf Tryd.prog 28 = some (false, 1) := by kernel_rfl
@[go_sem] theorem in28 : infoOf Tryd.prog 28 = some (1, 8) := by kernel_rfl
@[go_sem] theorem ct28 : cutTy Tryd.prog 28 = false := by kernel_rfl
@[go_sem] theorem so28 : solid Tryd.prog 28 = true := by kernel_rfl
@[go_sem] theorem ze28 : zeroV Tryd.prog 28 = some (.t .nilf) := by kernel_rfl
@[go_sem] theorem kd29 : kdOf Tryd.prog 29 = .fn := by kernel_rfl
@[go_sem] theorem ty29 : tyOf Tryd.prog 29 = some (false, 1) := by kernel_rfl
@[go_sem] theorem in29 : infoOf Tryd.prog 29 = some (1, 8) := by kernel_rfl
@[go_sem] theorem ct29 : cutTy Tryd.prog 29 = false := by kernel_rfl
@[go_sem] theorem so29 : solid Tryd.prog 29 = true := by kernel_rfl
@[go_sem] theorem ze29 : zeroV Tryd.prog 29 = some (.t .nilf) := by kernel_rfl
@[go_sem] theorem kd30 : kdOf Tryd.prog 30 = .struct := by kernel_rfl
@[go_sem] theorem ty30 : tyOf Tryd.prog 30 = some (true, 3) := by kernel_rfl
@[go_sem] theorem in30 : infoOf Tryd.prog 30 = some (3, 56) := by kernel_rfl
@[go_sem] theorem ct30 : cutTy Tryd.prog 30 = false := by kernel_rfl
@[go_sem] theorem so30 : solid Tryd.prog 30 = true := by kernel_rfl
@[go_sem] theorem ze30 : zeroV Tryd.prog 30 = some (.agg [.t (.int .u32 0), .ex [], .ex []]) := by kernel_rfl
@[go_sem] theorem fs30 : fldsOf Tryd.prog 30 = some [(0, 1), (1, 1), (2, 1)] := by kernel_rfl
@[go_sem] theorem ff30x0 : fld1 Tryd.prog 30 0 = some 0 := by kernel_rfl
@[go_sem] theorem fl30x0 : fldOf Tryd.prog 30 0 = some (0, 1) := by kernel_rfl
@[go_sem] theorem ff30x1 : fld1 Tryd.prog 30 1 = some 1 := by kernel_rfl
@[go_sem] theorem fl30x1 : fldOf Tryd.prog 30 1 = some (1, 1) := by kernel_rfl
@[go_sem] theorem ff30x2 : fld1 Tryd.prog 30 2 = some 2 := by kernel_rfl
@[go_sem] theorem fl30x2 : fldOf Tryd.prog 30 2 = some (2, 1) := by kernel_rfl
@[go_sem] theorem kd31 : kdOf Tryd.prog 31 = .fn := by kernel_rfl
@[go_sem] theorem ty31 : tyOf Tryd.prog 31 = some (false, 1) := by kernel_rfl
@[go_sem] theorem in31 : infoOf Tryd.prog 31 = some (1, 8) := by kernel_rfl
@[go_sem] theorem ct31 : cutTy Tryd.prog 31 = false := by kernel_rfl
@[go_sem] theorem so31 : solid Tryd.prog 31 = true := by kernel_rfl
@[go_sem] theorem ze31 : zeroV Tryd.prog 31 = some (.t .nilf) := by kernel_rfl
@[go_sem] theorem kd32 : kdOf Tryd.prog 32 = .fn := by kernel_rfl
@[go_sem] theorem ty32 : tyOf Tryd.prog 32 = some (false, 1) := by kernel_rfl
@[go_sem] theorem in32 : infoOf Tryd.prog 32 = some (1, 8) := by kernel_rfl
@[go_sem] theorem ct32 : cutTy Tryd.prog 32 = false := by kernel_rfl
@[go_sem] theorem so32 : solid Tryd.prog 32 = true := by kernel_rfl
@[go_sem] theorem ze32 : zeroV Tryd.prog 32 = some (.t .nilf) := by kernel_rfl
@[go_sem] theorem kd33 : kdOf Tryd.prog 33 = .fn := by kernel_rfl
@[go_sem] theorem ty33 : tyOf Tryd.prog 33 = some (false, 1) := by kernel_rfl
@[go_sem] theorem in33 : infoOf Tryd.prog 33 = some (1, 8) := by kernel_rfl
@[go_sem] theorem ct33 : cutTy Tryd.prog 33 = false := by kernel_rfl
@[go_sem] theorem so33 : solid Tryd.prog 33 = true := by kernel_rfl
@[go_sem] theorem ze33 : zeroV Tryd.prog 33 = some (.t .nilf) := by kernel_rfl
@[go_sem] theorem kd34 : kdOf Tryd.prog 34 = .fn := by kernel_rfl
@[go_sem] theorem ty34 : tyOf Tryd.prog 34 = some (false, 1) := by kernel_rfl
@[go_sem] theorem in34 : infoOf Tryd.prog 34 = some (1, 8) := by kernel_rfl
@[go_sem] theorem ct34 : cutTy Tryd.prog 34 = false := by kernel_rfl
@[go_sem] theorem so34 : solid Tryd.prog 34 = true := by kernel_rfl
@[go_sem] theorem ze34 : zeroV Tryd.prog 34 = some (.t .nilf) := by kernel_rfl
@[go_sem] theorem kd35 : kdOf Tryd.prog 35 = .fn := by kernel_rfl
@[go_sem] theorem ty35 : tyOf Tryd.prog 35 = some (false, 1) := by kernel_rfl
@[go_sem] theorem in35 : infoOf Tryd.prog 35 = some (1, 8) := by kernel_rfl
@[go_sem] theorem ct35 : cutTy Tryd.prog 35 = false := by kernel_rfl
@[go_sem] theorem so35 : solid Tryd.prog 35 = true := by kernel_rfl
@[go_sem] theorem ze35 : zeroV Tryd.prog 35 = some (.t .nilf) := by kernel_rfl
@[go_sem] theorem kd36 : kdOf Tryd.prog 36 = .fn := by kernel_rfl
@[go_sem] theorem ty36 : tyOf Tryd.prog 36 = some (false, 1) := by kernel_rfl
@[go_sem] theorem in36 : infoOf Tryd.prog 36 = some (1, 8) := by kernel_rfl
@[go_sem] theorem ct36 : cutTy Tryd.prog 36 = false := by kernel_rfl
@[go_sem] theorem so36 : solid Tryd.prog 36 = true := by kernel_rfl
@[go_sem] theorem ze36 : zeroV Tryd.prog 36 = some (.t .nilf) := by kernel_rfl
@[go_sem] theorem kd37 : kdOf Tryd.prog 37 = (.int .u64) := by kernel_rfl
@[go_sem] theorem ty37 : tyOf Tryd.prog 37 = some (false, 1) := by kernel_rfl
@[go_sem] theorem in37 : infoOf Tryd.prog 37 = some (1, 8) := by kernel_rfl
@[go_sem] theorem ct37 : cutTy Tryd.prog 37 = false := by kernel_rfl
@[go_sem] theorem so37 : solid Tryd.prog 37 = true := by kernel_rfl
@[go_sem] theorem ze37 : zeroV Tryd.prog 37 = some (.t (.int .u64 0)) := by kernel_rfl
@[go_sem] theorem kd38 : kdOf Tryd.prog 38 = .fn := by kernel_rfl
@[go_sem] theorem ty38 : tyOf Tryd.prog 38 = some (false, 1) := by kernel_rfl
@[go_sem] theorem in38 : infoOf Tryd.prog 38 = some (1, 8) := by kernel_rfl
@[go_sem] theorem ct38 : cutTy Tryd.prog 38 = false := by kernel_rfl
@[go_sem] theorem so38 : solid Tryd.prog 38 = true := by kernel_rfl
@[go_sem] theorem ze38 : zeroV Tryd.prog 38 = some (.t .nilf) := by kernel_rfl
@[go_sem] theorem kd39 : kdOf Tryd.prog 39 = .other := by kernel_rfl
@[go_sem] theorem ty39 : tyOf Tryd.prog 39 = some (false, 1) := by kernel_rfl
@[go_sem] theorem in39 : infoOf Tryd.prog 39 = some (1, 0) := by kernel_rfl
@[go_sem] theorem ct39 : cutTy Tryd.prog 39 = false := by kernel_rfl
@[go_sem] theorem so39 : solid Tryd.prog 39 = true := by kernel_rfl
@[go_sem] theorem kd40 : kdOf Tryd.prog 40 = .fn := by kernel_rfl
@[go_sem] theorem ty40 : tyOf Tryd.prog 40 = some (false, 1) := by kernel_rfl
@[go_sem] theorem in40 : infoOf Tryd.prog 40 = some (1, 8) := by kernel_rfl
@[go_sem] theorem ct40 : cutTy Tryd.prog 40 = false := by kernel_rfl
@[go_sem] theorem so40 : solid Tryd.prog 40 = true := by kernel_rfl
@[go_sem] theorem ze40 : zeroV Tryd.prog 40 = some (.t .nilf) := by kernel_rfl
@[go_sem] theorem kd41 : kdOf Tryd.prog 41 = .fn := by kernel_rfl
@[go_sem] theorem ty41 : tyOf Tryd.prog 41 = some (false, 1) := by kernel_rfl
@[go_sem] theorem in41 : infoOf Tryd.prog 41 = some (1, 8) := by kernel_rfl
@[go_sem] theorem ct41 : cutTy Tryd.prog 41 = false := by kernel_rfl
@[go_sem] theorem so41 : solid Tryd.prog 41 = true := by kernel_rfl
@[go_sem] theorem ze41 : zeroV Tryd.prog 41 = some (.t .nilf) := by kernel_rfl
@[go_sem] theorem kd42 : kdOf Tryd.prog 42 = .fn := by kernel_rfl
@[go_sem] theorem ty42 : tyOf Tryd.prog 42 = some (false, 1) := by kernel_rfl
@[go_sem] theorem in42 : infoOf Tryd.prog 42 = some (1, 8) := by kernel_rfl
@[go_sem] theorem ct42 : cutTy Tryd.prog 42 = false := by kernel_rfl
@[go_sem] theorem so42 : solid Tryd.prog 42 = true := by kernel_rfl
@[go_sem] theorem ze42 : zeroV Tryd.prog 42 = some (.t .nilf) := by kernel_rfl
@[go_sem] theorem kd43 : kdOf Tryd.prog 43 = .other := by kernel_rfl
@[go_sem] theorem ty43 : tyOf Tryd.prog 43 = some (false, 1) := by kernel_rfl
@[go_sem] theorem in43 : infoOf Tryd.prog 43 = some (1, 0) := by kernel_rfl
@[go_sem] theorem ct43 : cutTy Tryd.prog 43 = false := by kernel_rfl
@[go_sem] theorem so43 : solid Tryd.prog 43 = true := by kernel_rfl
@[go_sem] theorem kd44 : kdOf Tryd.prog 44 = .fn := by kernel_rfl
@[go_sem] theorem ty44 : tyOf Tryd.prog 44 = some (false, 1) := by kernel_rfl
@[go_sem] theorem in44 : infoOf Tryd.prog 44 = some (1, 8) := by kernel_rfl
@[go_sem] theorem ct44 : cutTy Tryd.prog 44 = false := by kernel_rfl
@[go_sem] theorem so44 : solid Tryd.prog 44 = true := by kernel_rfl
@[go_sem] theorem ze44 : zeroV Tryd.prog 44 = some (.t .nilf) := by kernel_rfl
@[go_sem] theorem kd45 : kdOf Tryd.prog 45 = .fn := by kernel_rfl
@[go_sem] theorem ty45 : tyOf Tryd.prog 45 = some (false, 1) := by kernel_rfl
@[go_sem] theorem in45 : infoOf Tryd.prog 45 = some (1, 8) := by kernel_rfl
@[go_sem] theorem ct45 : cutTy Tryd.prog 45 = false := by kernel_rfl
@[go_sem] theorem so45 : solid Tryd.prog 45 = true := by kernel_rfl
@[go_sem] theorem ze45 : zeroV Tryd.prog 45 = some (.t .nilf) := by kernel_rfl
@[go_sem] theorem kd46 : kdOf Tryd.prog 46 = .fn := by kernel_rfl
@[go_sem] theorem ty46 : tyOf Tryd.prog 46 = some (false, 1) := by kernel_rfl
@[go_sem] theorem in46 : infoOf Tryd.prog 46 = some (1, 8) := by kernel_rfl
@[go_sem] theorem ct46 : cutTy Tryd.prog 46 = false := by kernel_rfl
@[go_sem] theorem so46 : solid Tryd.prog 46 = true := by kernel_rfl
@[go_sem] theorem ze46 : zeroV Tryd.prog 46 = some (.t .nilf) := by kernel_rfl
@[go_sem] theorem kd47 : kdOf Tryd.prog 47 = .fn := by kernel_rfl
@[go_sem] theorem ty47 : tyOf Tryd.prog 47 = some (false, 1) := by kernel_rfl
@[go_sem] theorem in47 : infoOf Tryd.prog 47 = some (1, 8) := by kernel_rfl
@[go_sem] theorem ct47 : cutTy Tryd.prog 47 = false := by kernel_rfl
@[go_sem] theorem so47 : solid Tryd.prog 47 = true := by kernel_rfl
@[go_sem] theorem ze47 : zeroV Tryd.prog 47 = some (.t .nilf) := by kernel_rfl
@[go_sem] theorem kd48 : kdOf Tryd.prog 48 = .struct := by kernel_rfl
@[go_sem] theorem ty48 : tyOf Tryd.prog 48 = some (true, 6) := by kernel_rfl
@[go_sem] theorem in48 : infoOf Tryd.prog 48 = some (6, 48) := by kernel_rfl
@[go_sem] theorem ct48 : cutTy Tryd.prog 48 = false := by kernel_rfl
@[go_sem] theorem so48 : solid Tryd.prog 48 = true := by kernel_rfl
@[go_sem] theorem ze48 : zeroV Tryd.prog 48 = some (.t (.agg [(.int .i64 0), (.int .i64 0), (.int .i64 0), (.int .i64 0), (.int .i64 0), (.int .i64 0)])) := by kernel_rfl
@[go_sem] theorem fs48 : fldsOf Tryd.prog 48 = some [(0, 1), (1, 1), (2, 1), (3, 1), (4, 1), (5, 1)] := by kernel_rfl
@[go_sem] theorem ff48x0 : fld1 Tryd.prog 48 0 = some 0 := by kernel_rfl
@[go_sem] theorem fl48x0 : fldOf Tryd.prog 48 0 = some (0, 1) := by kernel_rfl
@[go_sem] theorem ff48x1 : fld1 Tryd.prog 48 1 = some 1 := by kernel_rfl
@[go_sem] theorem fl48x1 : fldOf Tryd.prog 48 1 = some (1, 1) := by kernel_rfl
@[go_sem] theorem ff48x2 : fld1 Tryd.prog 48 2 = some 2 := by kernel_rfl
@[go_sem] theorem fl48x2 : fldOf Tryd.prog 48 2 = some (2, 1) := by kernel_rfl
@[go_sem] theorem ff48x3 : fld1 Tryd.prog 48 3 = some 3 := by kernel_rfl
@[go_sem] theorem fl48x3 : fldOf Tryd.prog 48 3 = some (3, 1) := by kernel_rfl
@[go_sem] theorem ff48x4 : fld1 Tryd.prog 48 4 = some 4 := by kernel_rfl
@[go_sem] theorem fl48x4 : fldOf Tryd.prog 48 4 = some (4, 1) := by kernel_rfl
@[go_sem] theorem ff48x5 : fld1 Tryd.prog 48 5 = some 5 := by kernel_rfl
@[go_sem] theorem fl48x5 : fldOf Tryd.prog 48 5 = some (5, 1) := by kernel_rfl
@[go_sem] theorem kd49 : kdOf Tryd.prog 49 = .struct := by kernel_rfl
@[go_sem] theorem ty49 : tyOf Tryd.prog 49 = some (true, 6) := by kernel_rfl
@[go_sem] theorem in49 : infoOf Tryd.prog 49 = some (6, 48) := by kernel_rfl
@[go_sem] theorem ct49 : cutTy Tryd.prog 49 = false := by kernel_rfl
@[go_sem] theorem so49 : solid Tryd.prog 49 = true := by kernel_rfl
@[go_sem] theorem ze49 : zeroV Tryd.prog 49 = some (.t (.agg [(.int .i64 0), (.int .i64 0), (.int .i64 0), (.int .i64 0), (.int .i64 0), (.int .i64 0)])) := by kernel_rfl
@[go_sem] theorem fs49 : fldsOf Tryd.prog 49 = some [(0, 1), (1, 1), (2, 1), (3, 1), (4, 1), (5, 1)] := by kernel_rfl
@[go_sem] theorem ff49x0 : fld1 Tryd.prog 49 0 = some 0 := by kernel_rfl
@[go_sem] theorem fl49x0 : fldOf Tryd.prog 49 0 = some (0, 1) := by kernel_rfl
@[go_sem] theorem ff49x1 : fld1 Tryd.prog 49 1 = some 1 := by kernel_rfl
@[go_sem] theorem fl49x1 : fldOf Tryd.prog 49 1 = some (1, 1) := by kernel_rfl
@[go_sem] theorem ff49x2 : fld1 Tryd.prog 49 2 = some 2 := by kernel_rfl
@[go_sem] theorem fl49x2 : fldOf Tryd.prog 49 2 = some (2, 1) := by kernel_rfl
@[go_sem] theorem ff49x3 : fld1 Tryd.prog 49 3 = some 3 := by kernel_rfl
@[go_sem] theorem fl49x3 : fldOf Tryd.prog 49 3 = some (3, 1) := by kernel_rfl
@[go_sem] theorem ff49x4 : fld1 Tryd.prog 49 4 = some 4 := by kernel_rfl
@[go_sem] theorem fl49x4 : fldOf Tryd.prog 49 4 = some (4, 1) := by kernel_rfl
@[go_sem] theorem ff49x5 : fld1 Tryd.prog 49 5 = some 5 := by kernel_rfl
@[go_sem] theorem fl49x5 : fldOf Tryd.prog 49 5 = some (5, 1) := by kernel_rfl
@[go_sem] theorem kd50 : kdOf Tryd.prog 50 = .other := by kernel_rfl
@[go_sem] theorem ty50 : tyOf Tryd.prog 50 = some (false, 1) := by kernel_rfl
@[go_sem] theorem in50 : infoOf Tryd.prog 50 = some (1, 0) := by kernel_rfl
@[go_sem] theorem ct50 : cutTy Tryd.prog 50 = false := by kernel_rfl
@[go_sem] theorem so50 : solid Tryd.prog 50 = true := by kernel_rfl
@[go_sem] theorem kd51 : kdOf Tryd.prog 51 = .fn := by kernel_rfl
@[go_sem] theorem ty51 : tyOf Tryd.prog 51 = some (false, 1) := by kernel_rfl
@[go_sem] theorem in51 : infoOf Tryd.prog 51 = some (1, 8) := by kernel_rfl
@[go_sem] theorem ct51 : cutTy Tryd.prog 51 = false := by kernel_rfl
@[go_sem] theorem so51 : solid Tryd.prog 51 = true := by kernel_rfl
@[go_sem] theorem ze51 : zeroV Tryd.prog 51 = some (.t .nilf) := by kernel_rfl
@[go_sem] theorem kd52 : kdOf Tryd.prog 52 = .fn := by kernel_rfl
@[go_sem] theorem ty52 : tyOf Tryd.prog 52 = some (false, 1) := by kernel_rfl
@[go_sem] theorem in52 : infoOf Tryd.prog 52 = some (1, 8) := by kernel_rfl
@[go_sem] theorem ct52 : cutTy Tryd.prog 52 = false := by kernel_rfl
@[go_sem] theorem so52 : solid Tryd.prog 52 = true := by kernel_rfl
@[go_sem] theorem ze52 : zeroV Tryd.prog 52 = some (.t .nilf) := by kernel_rfl
@[go_sem] theorem kd53 : kdOf Tryd.prog 53 = .fn := by kernel_rfl
@[go_sem] theorem ty53 : tyOf Tryd.prog 53 = some (false, 1) := by kernel_rfl
@[go_sem] theorem in53 : infoOf Tryd.prog 53 = some (1, 8) := by kernel_rfl
@[go_sem] theorem ct53 : cutTy Tryd.prog 53 = false := by kernel_rfl
@[go_sem] theorem so53 : solid Tryd.prog 53 = true := by kernel_rfl
@[go_sem] theorem ze53 : zeroV Tryd.prog 53 = some (.t .nilf) := by kernel_rfl
@[go_sem] theorem kd54 : kdOf Tryd.prog 54 = (.sl 26) := by kernel_rfl
@[go_sem] theorem ty54 : tyOf Tryd.prog 54 = some (false, 1) := by kernel_rfl
@[go_sem] theorem in54 : infoOf Tryd.prog 54 = some (1, 24) := by kernel_rfl
@[go_sem] theorem ct54 : cutTy Tryd.prog 54 = false := by kernel_rfl
@[go_sem] theorem so54 : solid Tryd.prog 54 = true := by kernel_rfl
@[go_sem] theorem ze54 : zeroV Tryd.prog 54 = some (.ex []) := by kernel_rfl
@[go_sem] theorem kd55 : kdOf Tryd.prog 55 = .fn := by kernel_rfl
@[go_sem] theorem ty55 : tyOf Tryd.prog 55 = some (false, 1) := by kernel_rfl
@[go_sem] theorem in55 : infoOf Tryd.prog 55 = some (1, 8) := by kernel_rfl
@[go_sem] theorem ct55 : cutTy Tryd.prog 55 = false := by kernel_rfl
@[go_sem] theorem so55 : solid Tryd.prog 55 = true := by kernel_rfl
@[go_sem] theorem ze55 : zeroV Tryd.prog 55 = some (.t .nilf) := by kernel_rfl
@[go_sem] theorem kd56 : kdOf Tryd.prog 56 = .ptr := by kernel_rfl
@[go_sem] theorem ty56 : tyOf Tryd.prog 56 = some (false, 1) := by kernel_rfl
@[go_sem] theorem in56 : infoOf Tryd.prog 56 = some (1, 8) := by kernel_rfl
@[go_sem] theorem ct56 : cutTy Tryd.prog 56 = false := by kernel_rfl
@[go_sem] theorem so56 : solid Tryd.prog 56 = true := by kernel_rfl
@[go_sem] theorem me56xHas : methOf Tryd.prog 56 "Has" = some (69, none) := by kernel_rfl
@[go_sem] theorem me56xLen : methOf Tryd.prog 56 "Len" = some (34, none) := by kernel_rfl
@[go_sem] theorem me56xPop : methOf Tryd.prog 56 "Pop" = some (32, none) := by kernel_rfl
@[go_sem] theorem me56xPush : methOf Tryd.prog 56 "Push" = some (30, none) := by kernel_rfl
@[go_sem] theorem me56xSeen : methOf Tryd.prog 56 "Seen" = some (33, none) := by kernel_rfl
@[go_sem] theorem ze56 : zeroV Tryd.prog 56 = some (.t .nilp) := by kernel_rfl
@[go_sem] theorem kd57 : kdOf Tryd.prog 57 = (.sl 30) := by kernel_rfl
@[go_sem] theorem ty57 : tyOf Tryd.prog 57 = some (false, 1) := by kernel_rfl
@[go_sem] theorem in57 : infoOf Tryd.prog 57 = some (1, 24) := by kernel_rfl
@[go_sem] theorem ct57 : cutTy Tryd.prog 57 = false := by kernel_rfl
@[go_sem] theorem so57 : solid Tryd.prog 57 = true := by kernel_rfl
@[go_sem] theorem ze57 : zeroV Tryd.prog 57 = some (.ex []) := by kernel_rfl
@[go_sem] theorem kd58 : kdOf Tryd.prog 58 = (.sl 30) := by kernel_rfl
@[go_sem] theorem ty58 : tyOf Tryd.prog 58 = some (false, 1) := by kernel_rfl
@[go_sem] theorem in58 : infoOf Tryd.prog 58 = some (1, 24) := by kernel_rfl
@[go_sem] theorem ct58 : cutTy Tryd.prog 58 = true := by kernel_rfl
@[go_sem] theorem so58 : solid Tryd.prog 58 = true := by kernel_rfl
@[go_sem] theorem ze58 : zeroV Tryd.prog 58 = some (.ex []) := by kernel_rfl
@[go_sem] theorem kd59 : kdOf Tryd.prog 59 = .map := by kernel_rfl
@[go_sem] theorem ty59 : tyOf Tryd.prog 59 = some (false, 1) := by kernel_rfl
@[go_sem] theorem in59 : infoOf Tryd.prog 59 = some (1, 8) := by kernel_rfl
@[go_sem] theorem mt59 : mapSB Tryd.prog 59 = true := by kernel_rfl
@[go_sem] theorem ct59 : cutTy Tryd.prog 59 = false := by kernel_rfl
@[go_sem] theorem so59 : solid Tryd.prog 59 = true := by kernel_rfl
@[go_sem] theorem ze59 : zeroV Tryd.prog 59 = some (.t .nilm) := by kernel_rfl
@[go_sem] theorem kd60 : kdOf Tryd.prog 60 = .map := by kernel_rfl
@[go_sem] theorem ty60 : tyOf Tryd.prog 60 = some (false, 1) := by kernel_rfl
@[go_sem] theorem in60 : infoOf Tryd.prog 60 = some (1, 8) := by kernel_rfl
@[go_sem] theorem mt60 : mapSB Tryd.prog 60 = true := by kernel_rfl
@[go_sem] theorem ct60 : cutTy Tryd.prog 60 = false := by kernel_rfl
@[go_sem] theorem so60 : solid Tryd.prog 60 = true := by kernel_rfl
@[go_sem] theorem ze60 : zeroV Tryd.prog 60 = some (.t .nilm) := by kernel_rfl
@[go_sem] theorem kd61 : kdOf Tryd.prog 61 = .struct := by kernel_rfl
@[go_sem] theorem ty61 : tyOf Tryd.prog 61 = some (true, 2) := by kernel_rfl
@[go_sem] theorem in61 : infoOf Tryd.prog 61 = some (2, 32) := by kernel_rfl
@[go_sem] theorem ct61 : cutTy Tryd.prog 61 = false := by kernel_rfl
@[go_sem] theorem so61 : solid Tryd.prog 61 = true := by kernel_rfl
@[go_sem] theorem ze61 : zeroV Tryd.prog 61 = some (.agg [.ex [], .t .nilm]) := by kernel_rfl
@[go_sem] theorem fs61 : fldsOf Tryd.prog 61 = some [(0, 1), (1, 1)] := by kernel_rfl
@[go_sem] theorem ff61x0 : fld1 Tryd.prog 61 0 = some 0 := by kernel_rfl
@[go_sem] theorem fl61x0 : fldOf Tryd.prog 61 0 = some (0, 1) := by kernel_rfl
@[go_sem] theorem ff61x1 : fld1 Tryd.prog 61 1 = some 1 := by kernel_rfl
@[go_sem] theorem fl61x1 : fldOf Tryd.prog 61 1 = some (1, 1) := by kernel_rfl
@[go_sem] theorem kd62 : kdOf Tryd.prog 62 = .struct := by kernel_rfl
@[go_sem] theorem ty62 : tyOf Tryd.prog 62 = some (true, 2) := by kernel_rfl
@[go_sem] theorem in62 : infoOf Tryd.prog 62 = some (2, 32) := by kernel_rfl
@[go_sem] theorem ct62 : cutTy Tryd.prog 62 = false := by kernel_rfl
@[go_sem] theorem so62 : solid Tryd.prog 62 = true := by kernel_rfl
@[go_sem] theorem ze62 : zeroV Tryd.prog 62 = some (.agg [.ex [], .t .nilm]) := by kernel_rfl
@[go_sem] theorem fs62 : fldsOf Tryd.prog 62 = some [(0, 1), (1, 1)] := by kernel_rfl
@[go_sem] theorem ff62x0 : fld1 Tryd.prog 62 0 = some 0 := by kernel_rfl
@[go_sem] theorem fl62x0 : fldOf Tryd.prog 62 0 = some (0, 1) := by kernel_rfl
@[go_sem] theorem ff62x1 : fld1 Tryd.prog 62 1 = some 1 := by kernel_rfl
@[go_sem] theorem fl62x1 : fldOf Tryd.prog 62 1 = some (1, 1) := by kernel_rfl
@[go_sem] theorem kd63 : kdOf Tryd.prog 63 = .fn := by kernel_rfl
@[go_sem] theorem ty63 : tyOf Tryd.prog 63 = some (false, 1) := by kernel_rfl
@[go_sem] theorem in63 : infoOf Tryd.prog 63 = some (1, 8) := by kernel_rfl
@[go_sem] theorem ct63 : cutTy Tryd.prog 63 = false := by kernel_rfl
@[go_sem] theorem so63 : solid Tryd.prog 63 = true := by kernel_rfl
@[go_sem] theorem ze63 : zeroV Tryd.prog 63 = some (.t .nilf) := by kernel_rfl
@[go_sem] theorem kd64 : kdOf Tryd.prog 64 = .fn := by kernel_rfl
@[go_sem] theorem ty64 : tyOf Tryd.prog 64 = some (false, 1) := by kernel_rfl
@[go_sem] theorem in64 : infoOf Tryd.prog 64 = some (1, 8) := by kernel_rfl
@[go_sem] theorem ct64 : cutTy Tryd.prog 64 = false := by kernel_rfl
@[go_sem] theorem so64 : solid Tryd.prog 64 = true := by kernel_rfl
@[go_sem] theorem ze64 : zeroV Tryd.prog 64 = some (.t .nilf) := by kernel_rfl
@[go_sem] theorem kd65 : kdOf Tryd.prog 65 = .fn := by kernel_rfl
@[go_sem] theorem ty65 : tyOf Tryd.prog 65 = some (false, 1) := by kernel_rfl
@[go_sem] theorem in65 : infoOf Tryd.prog 65 = some (1, 8) := by kernel_rfl
@[go_sem] theorem ct65 : cutTy Tryd.prog 65 = false := by kernel_rfl
@[go_sem] theorem so65 : solid Tryd.prog 65 = true := by kernel_rfl
@[go_sem] theorem ze65 : zeroV Tryd.prog 65 = some (.t .nilf) := by kernel_rfl
@[go_sem] theorem kd66 : kdOf Tryd.prog 66 = .fn := by kernel_rfl
@[go_sem] theorem ty66 : tyOf Tryd.prog 66 = some (false, 1) := by kernel_rfl
@[go_sem] theorem in66 : infoOf Tryd.prog 66 = some (1, 8) := by kernel_rfl
@[go_sem] theorem ct66 : cutTy Tryd.prog 66 = false := by kernel_rfl
@[go_sem] theorem so66 : solid Tryd.prog 66 = true := by kernel_rfl
@[go_sem] theorem ze66 : zeroV Tryd.prog 66 = some (.t .nilf) := by kernel_rfl
@[go_sem] theorem kd67 : kdOf Tryd.prog 67 = (.int .u64) := by kernel_rfl
@[go_sem] theorem ty67 : tyOf Tryd.prog 67 = some (false, 1) := by kernel_rfl
@[go_sem] theorem in67 : infoOf Tryd.prog 67 = some (1, 8) := by kernel_rfl
@[go_sem] theorem ct67 : cutTy Tryd.prog 67 = false := by kernel_rfl
@[go_sem] theorem so67 : solid Tryd.prog 67 = true := by kernel_rfl
@[go_sem] theorem ze67 : zeroV Tryd.prog 67 = some (.t (.int .u64 0)) := by kernel_rfl
@[go_sem] theorem kd68 : kdOf Tryd.prog 68 = .fn := by kernel_rfl
@[go_sem] theorem ty68 : tyOf Tryd.prog 68 = some (false, 1) := by kernel_rfl
@[go_sem] theorem in68 : infoOf Tryd.prog 68 = some (1, 8) := by kernel_rfl
@[go_sem] theorem ct68 : cutTy Tryd.prog 68 = false := by kernel_rfl
@[go_sem] theorem so68 : solid Tryd.prog 68 = true := by kernel_rfl
@[go_sem] theorem ze68 : zeroV Tryd.prog 68 = some (.t .nilf) := by kernel_rfl
@[go_sem] theorem kd69 : kdOf Tryd.prog 69 = .fn := by kernel_rfl
@[go_sem] theorem ty69 : tyOf Tryd.prog 69 = some (false, 1) := by kernel_rfl
@[go_sem] theorem in69 : infoOf Tryd.prog 69 = some (1, 8) := by kernel_rfl
@[go_sem] theorem ct69 : cutTy Tryd.prog 69 = false := by kernel_rfl
@[go_sem] theorem so69 : solid Tryd.prog 69 = true := by kernel_rfl
@[go_sem] theorem ze69 : zeroV Tryd.prog 69 = some (.t .nilf) := by kernel_rfl
@[go_sem] theorem kd70 : kdOf Tryd.prog 70 = .fn := by kernel_rfl
@[go_sem] theorem ty70 : tyOf Tryd.prog 70 = some (false, 1) := by kernel_rfl
@[go_sem] theorem in70 : infoOf Tryd.prog 70 = some (1, 8) := by kernel_rfl
@[go_sem] theorem ct70 : cutTy Tryd.prog 70 = false := by kernel_rfl
@[go_sem] theorem so70 : solid Tryd.prog 70 = true := by kernel_rfl
@[go_sem] theorem ze70 : zeroV Tryd.prog 70 = some (.t .nilf) := by kernel_rfl
@[go_sem] theorem kd71 : kdOf Tryd.prog 71 = .fn := by kernel_rfl
@[go_sem] theorem ty71 : tyOf Tryd.prog 71 = some (false, 1) := by kernel_rfl
@[go_sem] theorem in71 : infoOf Tryd.prog 71 = some (1, 8) := by kernel_rfl
@[go_sem] theorem ct71 : cutTy Tryd.prog 71 = false := by kernel_rfl
@[go_sem] theorem so71 : solid Tryd.prog 71 = true := by kernel_rfl
@[go_sem] theorem ze71 : zeroV Tryd.prog 71 = some (.t .nilf) := by kernel_rfl
@[go_sem] theorem kd72 : kdOf Tryd.prog 72 = .fn := by kernel_rfl
@[go_sem] theorem ty72 : tyOf Tryd.prog 72 = some (false, 1) := by kernel_rfl
@[go_sem] theorem in72 : infoOf Tryd.prog 72 = some (1, 8) := by kernel_rfl
@[go_sem] theorem ct72 : cutTy Tryd.prog 72 = false := by kernel_rfl
@[go_sem] theorem so72 : solid Tryd.prog 72 = true := by kernel_rfl
@[go_sem] theorem ze72 : zeroV Tryd.prog 72 = some (.t .nilf) := by kernel_rfl
@[go_sem] theorem kd73 : kdOf Tryd.prog 73 = .fn := by kernel_rfl
@[go_sem] theorem ty73 : tyOf Tryd.prog 73 = some (false, 1) := by kernel_rfl
@[go_sem] theorem in73 : infoOf Tryd.prog 73 = some (1, 8) := by kernel_rfl
@[go_sem] theorem ct73 : cutTy Tryd.prog 73 = false := by kernel_rfl
@[go_sem] theorem so73 : solid Tryd.prog 73 = true := by kernel_rfl
@[go_sem] theorem ze73 : zeroV Tryd.prog 73 = some (.t .nilf) := by kernel_rfl
@[go_sem] theorem kd74 : kdOf Tryd.prog 74 = (.sl 9) := by kernel_rfl
@[go_sem] theorem ty74 : tyOf Tryd.prog 74 = some (false, 1) := by kernel_rfl
@[go_sem] theorem in74 : infoOf Tryd.prog 74 = some (1, 24) := by kernel_rfl
@[go_sem] theorem ct74 : cutTy Tryd.prog 74 = false := by kernel_rfl
@[go_sem] theorem so74 : solid Tryd.prog 74 = true := by kernel_rfl
@[go_sem] theorem ze74 : zeroV Tryd.prog 74 = some (.ex []) := by kernel_rfl
@[go_sem] theorem kd75 : kdOf Tryd.prog 75 = .fn := by kernel_rfl
@[go_sem] theorem ty75 : tyOf Tryd.prog 75 = some (false, 1) := by kernel_rfl
@[go_sem] theorem in75 : infoOf Tryd.prog 75 = some (1, 8) := by kernel_rfl
@[go_sem] theorem ct75 : cutTy Tryd.prog 75 = false := by kernel_rfl
@[go_sem] theorem so75 : solid Tryd.prog 75 = true := by kernel_rfl
@[go_sem] theorem ze75 : zeroV Tryd.prog 75 = some (.t .nilf) := by kernel_rfl
@[go_sem] theorem kd76 : kdOf Tryd.prog 76 = .other := by kernel_rfl
@[go_sem] theorem ty76 : tyOf Tryd.prog 76 = some (false, 1) := by kernel_rfl
@[go_sem] theorem in76 : infoOf Tryd.prog 76 = some (1, 16) := by kernel_rfl
@[go_sem] theorem ct76 : cutTy Tryd.prog 76 = false := by kernel_rfl
@[go_sem] theorem ze76 : zeroV Tryd.prog 76 = some (.t .nili) := by kernel_rfl
@[go_sem] theorem kd77 : kdOf Tryd.prog 77 = .other := by kernel_rfl
@[go_sem] theorem ty77 : tyOf Tryd.prog 77 = some (false, 1) := by kernel_rfl
@[go_sem] theorem in77 : infoOf Tryd.prog 77 = some (1, 16) := by kernel_rfl
@[go_sem] theorem ct77 : cutTy Tryd.prog 77 = false := by kernel_rfl
@[go_sem] theorem ze77 : zeroV Tryd.prog 77 = some (.t .nili) := by kernel_rfl
@[go_sem] theorem kd78 : kdOf Tryd.prog 78 = .other := by kernel_rfl
@[go_sem] theorem ty78 : tyOf Tryd.prog 78 = some (false, 1) := by kernel_rfl
@[go_sem] theorem in78 : infoOf Tryd.prog 78 = some (1, 0) := by kernel_rfl
@[go_sem] theorem ct78 : cutTy Tryd.prog 78 = false := by kernel_rfl
@[go_sem] theorem so78 : solid Tryd.prog 78 = true := by kernel_rfl
@[go_sem] theorem kd79 : kdOf Tryd.prog 79 = .fn := by kernel_rfl
@[go_sem] theorem ty79 : tyOf Tryd.prog 79 = some (false, 1) := by kernel_rfl
@[go_sem] theorem in79 : infoOf Tryd.prog 79 = some (1, 8) := by kernel_rfl
@[go_sem] theorem ct79 : cutTy Tryd.prog 79 = false := by kernel_rfl
@[go_sem] theorem so79 : solid Tryd.prog 79 = true := by kernel_rfl
@[go_sem] theorem ze79 : zeroV Tryd.prog 79 = some (.t .nilf) := by kernel_rfl
@[go_sem] theorem kd80 : kdOf Tryd.prog 80 = .fn := by kernel_rfl
@[go_sem] theorem ty80 : tyOf Tryd.prog 80 = some (false, 1) := by kernel_rfl
@[go_sem] theorem in80 : infoOf Tryd.prog 80 = some (1, 8) := by kernel_rfl
@[go_sem] theorem ct80 : cutTy Tryd.prog 80 = false := by kernel_rfl
@[go_sem] theorem so80 : solid Tryd.prog 80 = true := by kernel_rfl
@[go_sem] theorem ze80 : zeroV Tryd.prog 80 = some (.t .nilf) := by kernel_rfl
@[go_sem] theorem kd81 : kdOf Tryd.prog 81 = .fn := by kernel_rfl
@[go_sem] theorem ty81 : tyOf Tryd.prog 81 = some (false, 1) := by kernel_rfl
@[go_sem] theorem in81 : infoOf Tryd.prog 81 = some (1, 8) := by kernel_rfl
@[go_sem] theorem ct81 : cutTy Tryd.prog 81 = false := by kernel_rfl
@[go_sem] theorem so81 : solid Tryd.prog 81 = true := by kernel_rfl
@[go_sem] theorem ze81 : zeroV Tryd.prog 81 = some (.t .nilf) := by kernel_rfl
@[go_sem] theorem kd82 : kdOf Tryd.prog 82 = .fn := by kernel_rfl
@[go_sem] theorem ty82 : tyOf Tryd.prog 82 = some (false, 1) := by kernel_rfl
@[go_sem] theorem in82 : infoOf Tryd.prog 82 = some (1, 8) := by kernel_rfl
@[go_sem] theorem ct82 : cutTy Tryd.prog 82 = false := by kernel_rfl
@[go_sem] theorem so82 : solid Tryd.prog 82 = true := by kernel_rfl
@[go_sem] theorem ze82 : zeroV Tryd.prog 82 = some (.t .nilf) := by kernel_rfl
@[go_sem] theorem kd83 : kdOf Tryd.prog 83 = .fn := by kernel_rfl
@[go_sem] theorem ty83 : tyOf Tryd.prog 83 = some (false, 1) := by kernel_rfl
@[go_sem] theorem in83 : infoOf Tryd.prog 83 = some (1, 8) := by kernel_rfl
@[go_sem] theorem ct83 : cutTy Tryd.prog 83 = false := by kernel_rfl
@[go_sem] theorem so83 : solid Tryd.prog 83 = true := by kernel_rfl
@[go_sem] theorem ze83 : zeroV Tryd.prog 83 = some (.t .nilf) := by kernel_rfl
@[go_sem] theorem kd84 : kdOf Tryd.prog 84 = .fn := by kernel_rfl
@[go_sem] theorem ty84 : tyOf Tryd.prog 84 = some (false, 1) := by kernel_rfl
@[go_sem] theorem in84 : infoOf Tryd.prog 84 = some (1, 8) := by kernel_rfl
@[go_sem] theorem ct84 : cutTy Tryd.prog 84 = false := by kernel_rfl
@[go_sem] theorem so84 : solid Tryd.prog 84 = true := by kernel_rfl
@[go_sem] theorem ze84 : zeroV Tryd.prog 84 = some (.t .nilf) := by kernel_rfl
@[go_sem] theorem kd85 : kdOf Tryd.prog 85 = .other := by kernel_rfl
@[go_sem] theorem ty85 : tyOf Tryd.prog 85 = some (false, 1) := by kernel_rfl
@[go_sem] theorem in85 : infoOf Tryd.prog 85 = some (1, 0) := by kernel_rfl
@[go_sem] theorem ct85 : cutTy Tryd.prog 85 = false := by kernel_rfl
@[go_sem] theorem so85 : solid Tryd.prog 85 = true := by kernel_rfl
@[go_sem] theorem kd86 : kdOf Tryd.prog 86 = .fn := by kernel_rfl
@[go_sem] theorem ty86 : tyOf Tryd.prog 86 = some (false, 1) := by kernel_rfl
@[go_sem] theorem in86 : infoOf Tryd.prog 86 = some (1, 8) := by kernel_rfl
@[go_sem] theorem ct86 : cutTy Tryd.prog 86 = false := by kernel_rfl
@[go_sem] theorem so86 : solid Tryd.prog 86 = true := by kernel_rfl
@[go_sem] theorem ze86 : zeroV Tryd.prog 86 = some (.t .nilf) := by kernel_rfl
@[go_sem] theorem kd87 : kdOf Tryd.prog 87 = .other := by kernel_rfl
@[go_sem] theorem ty87 : tyOf Tryd.prog 87 = some (false, 1) := by kernel_rfl
@[go_sem] theorem in87 : infoOf Tryd.prog 87 = some (1, 0) := by kernel_rfl
@[go_sem] theorem ct87 : cutTy Tryd.prog 87 = false := by kernel_rfl
@[go_sem] theorem so87 : solid Tryd.prog 87 = true := by kernel_rfl
@[go_sem] theorem kd88 : kdOf Tryd.prog 88 = .fn := by kernel_rfl
@[go_sem] theorem ty88 : tyOf Tryd.prog 88 = some (false, 1) := by kernel_rfl
@[go_sem] theorem in88 : infoOf Tryd.prog 88 = some (1, 8) := by kernel_rfl
@[go_sem] theorem ct88 : cutTy Tryd.prog 88 = false := by kernel_rfl
@[go_sem] theorem so88 : solid Tryd.prog 88 = true := by kernel_rfl
@[go_sem] theorem ze88 : zeroV Tryd.prog 88 = some (.t .nilf) := by kernel_rfl
@[go_sem] theorem kd89 : kdOf Tryd.prog 89 = .fn := by kernel_rfl
@[go_sem] theorem ty89 : tyOf Tryd.prog 89 = some (false, 1) := by kernel_rfl
@[go_sem] theorem in89 : infoOf Tryd.prog 89 = some (1, 8) := by kernel_rfl
@[go_sem] theorem ct89 : cutTy Tryd.prog 89 = false := by kernel_rfl
@[go_sem] theorem so89 : solid Tryd.prog 89 = true := by kernel_rfl
@[go_sem] theorem ze89 : zeroV Tryd.prog 89 = some (.t .nilf) := by kernel_rfl
@[go_sem] theorem kd90 : kdOf Tryd.prog 90 = .fn := by kernel_rfl
@[go_sem] theorem ty90 : tyOf Tryd.prog 90 = some (false, 1) := by kernel_rfl
@[go_sem] theorem in90 : infoOf Tryd.prog 90 = some (1, 8) := by kernel_rfl
@[go_sem] theorem ct90 : cutTy Tryd.prog 90 = false := by kernel_rfl
@[go_sem] theorem so90 : solid Tryd.prog 90 = true := by kernel_rfl
@[go_sem] theorem ze90 : zeroV Tryd.prog 90 = some (.t .nilf) := by kernel_rfl
@[go_sem] theorem kd91 : kdOf Tryd.prog 91 = (.sl 2) := by kernel_rfl
@[go_sem] theorem ty91 : tyOf Tryd.prog 91 = some (false, 1) := by kernel_rfl
@[go_sem] theorem in91 : infoOf Tryd.prog 91 = some (1, 24) := by kernel_rfl
@[go_sem] theorem ct91 : cutTy Tryd.prog 91 = false := by kernel_rfl
@[go_sem] theorem so91 : solid Tryd.prog 91 = true := by kernel_rfl
@[go_sem] theorem ze91 : zeroV Tryd.prog 91 = some (.ex []) := by kernel_rfl
@[go_sem] theorem kd92 : kdOf Tryd.prog 92 = (.sl 98) := by kernel_rfl
@[go_sem] theorem ty92 : tyOf Tryd.prog 92 = some (false, 1) := by kernel_rfl
@[go_sem] theorem in92 : infoOf Tryd.prog 92 = some (1, 24) := by kernel_rfl
@[go_sem] theorem ct92 : cutTy Tryd.prog 92 = false := by kernel_rfl
@[go_sem] theorem so92 : solid Tryd.prog 92 = true := by kernel_rfl
@[go_sem] theorem ze92 : zeroV Tryd.prog 92 = some (.ex []) := by kernel_rfl
@[go_sem] theorem kd93 : kdOf Tryd.prog 93 = .struct := by kernel_rfl
@[go_sem] theorem ty93 : tyOf Tryd.prog 93 = some (true, 2) := by kernel_rfl
@[go_sem] theorem in93 : infoOf Tryd.prog 93 = some (2, 48) := by kernel_rfl
@[go_sem] theorem ct93 : cutTy Tryd.prog 93 = false := by kernel_rfl
@[go_sem] theorem so93 : solid Tryd.prog 93 = true := by kernel_rfl
@[go_sem] theorem ze93 : zeroV Tryd.prog 93 = some (.agg [.ex [], .ex []]) := by kernel_rfl
@[go_sem] theorem fs93 : fldsOf Tryd.prog 93 = some [(0, 1), (1, 1)] := by kernel_rfl
@[go_sem] theorem ff93x0 : fld1 Tryd.prog 93 0 = some 0 := by kernel_rfl
@[go_sem] theorem fl93x0 : fldOf Tryd.prog 93 0 = some (0, 1) := by kernel_rfl
@[go_sem] theorem ff93x1 : fld1 Tryd.prog 93 1 = some 1 := by kernel_rfl
@[go_sem] theorem fl93x1 : fldOf Tryd.prog 93 1 = some (1, 1) := by kernel_rfl
@[go_sem] theorem kd94 : kdOf Tryd.prog 94 = .struct := by kernel_rfl
@[go_sem] theorem ty94 : tyOf Tryd.prog 94 = some (true, 2) := by kernel_rfl
@[go_sem] theorem in94 : infoOf Tryd.prog 94 = some (2, 48) := by kernel_rfl
@[go_sem] theorem ct94 : cutTy Tryd.prog 94 = false := by kernel_rfl
@[go_sem] theorem so94 : solid Tryd.prog 94 = true := by kernel_rfl
@[go_sem] theorem ze94 : zeroV Tryd.prog 94 = some (.agg [.ex [], .ex []]) := by kernel_rfl
@[go_sem] theorem fs94 : fldsOf Tryd.prog 94 = some [(0, 1), (1, 1)] := by kernel_rfl
@[go_sem] theorem ff94x0 : fld1 Tryd.prog 94 0 = some 0 := by kernel_rfl
@[go_sem] theorem fl94x0 : fldOf Tryd.prog 94 0 = some (0, 1) := by kernel_rfl
@[go_sem] theorem ff94x1 : fld1 Tryd.prog 94 1 = some 1 := by kernel_rfl
@[go_sem] theorem fl94x1 : fldOf Tryd.prog 94 1 = some (1, 1) := by kernel_rfl
@[go_sem] theorem kd95 : kdOf Tryd.prog 95 = (.int .i64) := by kernel_rfl
@[go_sem] theorem ty95 : tyOf Tryd.prog 95 = some (false, 1) := by kernel_rfl
@[go_sem] theorem in95 : infoOf Tryd.prog 95 = some (1, 8) := by kernel_rfl
@[go_sem] theorem ct95 : cutTy Tryd.prog 95 = false := by kernel_rfl
@[go_sem] theorem so95 : solid Tryd.prog 95 = true := by kernel_rfl
@[go_sem] theorem ze95 : zeroV Tryd.prog 95 = some (.t (.int .i64 0)) := by kernel_rfl
@[go_sem] theorem kd96 : kdOf Tryd.prog 96 = .other := by kernel_rfl
@[go_sem] theorem ty96 : tyOf Tryd.prog 96 = some (false, 1) := by kernel_rfl
@[go_sem] theorem in96 : infoOf Tryd.prog 96 = some (1, 0) := by kernel_rfl
@[go_sem] theorem ct96 : cutTy Tryd.prog 96 = false := by kernel_rfl
@[go_sem] theorem so96 : solid Tryd.prog 96 = true := by kernel_rfl
@[go_sem] theorem kd97 : kdOf Tryd.prog 97 = .fn := by kernel_rfl
@[go_sem] theorem ty97 : tyOf Tryd.prog 97 = some (false, 1) := by kernel_rfl
@[go_sem] theorem in97 : infoOf Tryd.prog 97 = some (1, 8) := by kernel_rfl
@[go_sem] theorem ct97 : cutTy Tryd.prog 97 = false := by kernel_rfl
@[go_sem] theorem so97 : solid Tryd.prog 97 = true := by kernel_rfl
@[go_sem] theorem ze97 : zeroV Tryd.prog 97 = some (.t .nilf) := by kernel_rfl
@[go_sem] theorem kd98 : kdOf Tryd.prog 98 = (.sl 49) := by kernel_rfl
@[go_sem] theorem ty98 : tyOf Tryd.prog 98 = some (false, 1) := by kernel_rfl
@[go_sem] theorem in98 : infoOf Tryd.prog 98 = some (1, 24) := by kernel_rfl
@[go_sem] theorem ct98 : cutTy Tryd.prog 98 = false := by kernel_rfl
@[go_sem] theorem so98 : solid Tryd.prog 98 = true := by kernel_rfl
@[go_sem] theorem ze98 : zeroV Tryd.prog 98 = some (.ex []) := by kernel_rfl
@[go_sem] theorem kd99 : kdOf Tryd.prog 99 = .fn := by kernel_rfl
@[go_sem] theorem ty99 : tyOf Tryd.prog 99 = some (false, 1) := by kernel_rfl
@[go_sem] theorem in99 : infoOf Tryd.prog 99 = some (1, 8) := by kernel_rfl
@[go_sem] theorem ct99 : cutTy Tryd.prog 99 = false := by kernel_rfl
@[go_sem] theorem so99 : solid Tryd.prog 99 = true := by kernel_rfl
@[go_sem] theorem ze99 : zeroV Tryd.prog 99 = some (.t .nilf) := by kernel_rfl
@[go_sem] theorem kd100 : kdOf Tryd.prog 100 = .ptr := by kernel_rfl
@[go_sem] theorem ty100 : tyOf Tryd.prog 100 = some (false, 1) := by kernel_rfl
@[go_sem] theorem in100 : infoOf Tryd.prog 100 = some (1, 8) := by kernel_rfl
@[go_sem] theorem ct100 : cutTy Tryd.prog 100 = false := by kernel_rfl
@[go_sem] theorem so100 : solid Tryd.prog 100 = true := by kernel_rfl
@[go_sem] theorem ze100 : zeroV Tryd.prog 100 = some (.t .nilp) := by kernel_rfl
@[go_sem] theorem kd101 : kdOf Tryd.prog 101 = (.arr 5 100) := by kernel_rfl
@[go_sem] theorem ty101 : tyOf Tryd.prog 101 = some (true, 5) := by kernel_rfl
@[go_sem] theorem in101 : infoOf Tryd.prog 101 = some (5, 40) := by kernel_rfl
@[go_sem] theorem ct101 : cutTy Tryd.prog 101 = false := by kernel_rfl
@[go_sem] theorem so101 : solid Tryd.prog 101 = true := by kernel_rfl
@[go_sem] theorem ze101 : zeroV Tryd.prog 101 = some (.t (.agg [.nilp, .nilp, .nilp, .nilp, .nilp])) := by kernel_rfl
@[go_sem] theorem kd102 : kdOf Tryd.prog 102 = .fn := by kernel_rfl
@[go_sem] theorem ty102 : tyOf Tryd.prog 102 = some (false, 1) := by kernel_rfl
@[go_sem] theorem in102 : infoOf Tryd.prog 102 = some (1, 8) := by kernel_rfl
@[go_sem] theorem ct102 : cutTy Tryd.prog 102 = false := by kernel_rfl
@[go_sem] theorem so102 : solid Tryd.prog 102 = true := by kernel_rfl
@[go_sem] theorem ze102 : zeroV Tryd.prog 102 = some (.t .nilf) := by kernel_rfl
@[go_sem] theorem kd103 : kdOf Tryd.prog 103 = .ptr := by kernel_rfl
@[go_sem] theorem ty103 : tyOf Tryd.prog 103 = some (false, 1) := by kernel_rfl
@[go_sem] theorem in103 : infoOf Tryd.prog 103 = some (1, 8) := by kernel_rfl
@[go_sem] theorem ct103 : cutTy Tryd.prog 103 = false := by kernel_rfl
@[go_sem] theorem so103 : solid Tryd.prog 103 = true := by kernel_rfl
@[go_sem] theorem ze103 : zeroV Tryd.prog 103 = some (.t .nilp) := by kernel_rfl
@[go_sem] theorem kd104 : kdOf Tryd.prog 104 = .other := by kernel_rfl
@[go_sem] theorem ty104 : tyOf Tryd.prog 104 = some (false, 1) := by kernel_rfl
@[go_sem] theorem in104 : infoOf Tryd.prog 104 = some (1, 0) := by kernel_rfl
@[go_sem] theorem ct104 : cutTy Tryd.prog 104 = false := by kernel_rfl
@[go_sem] theorem so104 : solid Tryd.prog 104 = true := by kernel_rfl
@[go_sem] theorem kd105 : kdOf Tryd.prog 105 = .fn := by kernel_rfl
@[go_sem] theorem ty105 : tyOf Tryd.prog 105 = some (false, 1) := by kernel_rfl
@[go_sem] theorem in105 : infoOf Tryd.prog 105 = some (1, 8) := by kernel_rfl
@[go_sem] theorem ct105 : cutTy Tryd.prog 105 = false := by kernel_rfl
@[go_sem] theorem so105 : solid Tryd.prog 105 = true := by kernel_rfl
@[go_sem] theorem ze105 : zeroV Tryd.prog 105 = some (.t .nilf) := by kernel_rfl
@[go_sem] theorem kd106 : kdOf Tryd.prog 106 = .fn := by kernel_rfl
@[go_sem] theorem ty106 : tyOf Tryd.prog 106 = some (false, 1) := by kernel_rfl
@[go_sem] theorem in106 : infoOf Tryd.prog 106 = some (1, 8) := by kernel_rfl
@[go_sem] theorem ct106 : cutTy Tryd.prog 106 = false := by kernel_rfl
@[go_sem] theorem so106 : solid Tryd.prog 106 = true := by kernel_rfl
@[go_sem] theorem ze106 : zeroV Tryd.prog 106 = some (.t .nilf) := by kernel_rfl
@[go_sem] theorem kd107 : kdOf Tryd.prog 107 = .other := by kernel_rfl
@[go_sem] theorem ty107 : tyOf Tryd.prog 107 = some (false, 1) := by kernel_rfl
@[go_sem] theorem in107 : infoOf Tryd.prog 107 = some (1, 0) := by kernel_rfl
@[go_sem] theorem ct107 : cutTy Tryd.prog 107 = false := by kernel_rfl
@[go_sem] theorem so107 : solid Tryd.prog 107 = true := by kernel_rfl
@[go_sem] theorem kd108 : kdOf Tryd.prog 108 = .fn := by kernel_rfl
@[go_sem] theorem ty108 : tyOf Tryd.prog 108 = some (false, 1) := by kernel_rfl
@[go_sem] theorem in108 : infoOf Tryd.prog 108 = some (1, 8) := by kernel_rfl
@[go_sem] theorem ct108 : cutTy Tryd.prog 108 = false := by kernel_rfl
@[go_sem] theorem so108 : solid Tryd.prog 108 = true := by kernel_rfl
@[go_sem] theorem ze108 : zeroV Tryd.prog 108 = some (.t .nilf) := by kernel_rfl
@[go_sem] theorem kd109 : kdOf Tryd.prog 109 = .fn := by kernel_rfl
@[go_sem] theorem ty109 : tyOf Tryd.prog 109 = some (false, 1) := by kernel_rfl
@[go_sem] theorem in109 : infoOf Tryd.prog 109 = some (1, 8) := by kernel_rfl
@[go_sem] theorem ct109 : cutTy Tryd.prog 109 = false := by kernel_rfl
@[go_sem] theorem so109 : solid Tryd.prog 109 = true := by kernel_rfl
@[go_sem] theorem ze109 : zeroV Tryd.prog 109 = some (.t .nilf) := by kernel_rfl
@[go_sem] theorem kd110 : kdOf Tryd.prog 110 = .fn := by kernel_rfl
@[go_sem] theorem ty110 : tyOf Tryd.prog 110 = some (false, 1) := by kernel_rfl
@[go_sem] theorem in110 : infoOf Tryd.prog 110 = some (1, 8) := by kernel_rfl
@[go_sem] theorem ct110 : cutTy Tryd.prog 110 = false := by kernel_rfl
@[go_sem] theorem so110 : solid Tryd.prog 110 = true := by kernel_rfl
@[go_sem] theorem ze110 : zeroV Tryd.prog 110 = some (.t .nilf) := by kernel_rfl
@[go_sem] theorem kd111 : kdOf Tryd.prog 111 = .fn := by kernel_rfl
@[go_sem] theorem ty111 : tyOf Tryd.prog 111 = some (false, 1) := by kernel_rfl
@[go_sem] theorem in111 : infoOf Tryd.prog 111 = some (1, 8) := by kernel_rfl
@[go_sem] theorem ct111 : cutTy Tryd.prog 111 = false := by kernel_rfl
@[go_sem] theorem so111 : solid Tryd.prog 111 = true := by kernel_rfl
@[go_sem] theorem ze111 : zeroV Tryd.prog 111 = some (.t .nilf) := by kernel_rfl
@[go_sem] theorem kd112 : kdOf Tryd.prog 112 = .fn := by kernel_rfl
@[go_sem] theorem ty112 : tyOf Tryd.prog 112 = some (false, 1) := by kernel_rfl
@[go_sem] theorem in112 : infoOf Tryd.prog 112 = some (1, 8) := by kernel_rfl
@[go_sem] theorem ct112 : cutTy Tryd.prog 112 = false := by kernel_rfl
@[go_sem] theorem so112 : solid Tryd.prog 112 = true := by kernel_rfl
@[go_sem] theorem ze112 : zeroV Tryd.prog 112 = some (.t .nilf) := by kernel_rfl
@[go_sem] theorem kd113 : kdOf Tryd.prog 113 = .fn := by kernel_rfl
@[go_sem] theorem ty113 : tyOf Tryd.prog 113 = some (false, 1) := by kernel_rfl
@[go_sem] theorem in113 : infoOf Tryd.prog 113 = some (1, 8) := by kernel_rfl
@[go_sem] theorem ct113 : cutTy Tryd.prog 113 = false := by kernel_rfl
@[go_sem] theorem so113 : solid Tryd.prog 113 = true := by kernel_rfl
@[go_sem] theorem ze113 : zeroV Tryd.prog 113 = some (.t .nilf) := by kernel_rfl
@[go_sem] theorem kd114 : kdOf Tryd.prog 114 = .fn := by kernel_rfl
@[go_sem] theorem ty114 : tyOf Tryd.prog 114 = some (false, 1) := by kernel_rfl
@[go_sem] theorem in114 : infoOf Tryd.prog 114 = some (1, 8) := by kernel_rfl
@[go_sem] theorem ct114 : cutTy Tryd.prog 114 = false := by kernel_rfl
@[go_sem] theorem so114 : solid Tryd.prog 114 = true := by kernel_rfl
@[go_sem] theorem ze114 : zeroV Tryd.prog 114 = some (.t .nilf) := by kernel_rfl
@[go_sem] theorem kd115 : kdOf Tryd.prog 115 = .fn := by kernel_rfl
@[go_sem] theorem ty115 : tyOf Tryd.prog 115 = some (false, 1) := by kernel_rfl
@[go_sem] theorem in115 : infoOf Tryd.prog 115 = some (1, 8) := by kernel_rfl
@[go_sem] theorem ct115 : cutTy Tryd.prog 115 = false := by kernel_rfl
@[go_sem] theorem so115 : solid Tryd.prog 115 = true := by kernel_rfl
@[go_sem] theorem ze115 : zeroV Tryd.prog 115 = some (.t .nilf) := by kernel_rfl
@[go_sem] theorem kd116 : kdOf Tryd.prog 116 = .ptr := by kernel_rfl
@[go_sem] theorem ty116 : tyOf Tryd.prog 116 = some (false, 1) := by kernel_rfl
@[go_sem] theorem in116 : infoOf Tryd.prog 116 = some (1, 8) := by kernel_rfl
@[go_sem] theorem ct116 : cutTy Tryd.prog 116 = false := by kernel_rfl
@[go_sem] theorem so116 : solid Tryd.prog 116 = true := by kernel_rfl
@[go_sem] theorem me116xLen : methOf Tryd.prog 116 "Len" = some (165, some 58) := by kernel_rfl
@[go_sem] theorem me116xLess : methOf Tryd.prog 116 "Less" = some (166, some 58) := by kernel_rfl
@[go_sem] theorem me116xPop : methOf Tryd.prog 116 "Pop" = some (168, none) := by kernel_rfl
@[go_sem] theorem me116xPush : methOf Tryd.prog 116 "Push" = some (169, none) := by kernel_rfl
@[go_sem] theorem me116xSwap : methOf Tryd.prog 116 "Swap" = some (167, some 58) := by kernel_rfl
@[go_sem] theorem ze116 : zeroV Tryd.prog 116 = some (.t .nilp) := by kernel_rfl
@[go_sem] theorem kd117 : kdOf Tryd.prog 117 = .fn := by kernel_rfl
@[go_sem] theorem ty117 : tyOf Tryd.prog 117 = some (false, 1) := by kernel_rfl
@[go_sem] theorem in117 : infoOf Tryd.prog 117 = some (1, 8) := by kernel_rfl
@[go_sem] theorem ct117 : cutTy Tryd.prog 117 = false := by kernel_rfl
@[go_sem] theorem so117 : solid Tryd.prog 117 = true := by kernel_rfl
@[go_sem] theorem ze117 : zeroV Tryd.prog 117 = some (.t .nilf) := by kernel_rfl
@[go_sem] theorem kd118 : kdOf Tryd.prog 118 = .fn := by kernel_rfl
@[go_sem] theorem ty118 : tyOf Tryd.prog 118 = some (false, 1) := by kernel_rfl
@[go_sem] theorem in118 : infoOf Tryd.prog 118 = some (1, 8) := by kernel_rfl
@[go_sem] theorem ct118 : cutTy Tryd.prog 118 = false := by kernel_rfl
@[go_sem] theorem so118 : solid Tryd.prog 118 = true := by kernel_rfl
@[go_sem] theorem ze118 : zeroV Tryd.prog 118 = some (.t .nilf) := by kernel_rfl
@[go_sem] theorem kd119 : kdOf Tryd.prog 119 = .fn := by kernel_rfl
@[go_sem] theorem ty119 : tyOf Tryd.prog 119 = some (false, 1) := by kernel_rfl
@[go_sem] theorem in119 : infoOf Tryd.prog 119 = some (1, 8) := by kernel_rfl
@[go_sem] theorem ct119 : cutTy Tryd.prog 119 = false := by kernel_rfl
@[go_sem] theorem so119 : solid Tryd.prog 119 = true := by kernel_rfl
@[go_sem] theorem ze119 : zeroV Tryd.prog 119 = some (.t .nilf) := by kernel_rfl
@[go_sem] theorem kd120 : kdOf Tryd.prog 120 = .fn := by kernel_rfl
@[go_sem] theorem ty120 : tyOf Tryd.prog 120 = some (false, 1) := by kernel_rfl
@[go_sem] theorem in120 : infoOf Tryd.prog 120 = some (1, 8) := by kernel_rfl
@[go_sem] theorem ct120 : cutTy Tryd.prog 120 = false := by kernel_rfl
@[go_sem] theorem so120 : solid Tryd.prog 120 = true := by kernel_rfl
@[go_sem] theorem ze120 : zeroV Tryd.prog 120 = some (.t .nilf) := by kernel_rfl
@[go_sem] theorem kd121 : kdOf Tryd.prog 121 = .fn := by kernel_rfl
@[go_sem] theorem ty121 : tyOf Tryd.prog 121 = some (false, 1) := by kernel_rfl
@[go_sem] theorem in121 : infoOf Tryd.prog 121 = some (1, 8) := by kernel_rfl
@[go_sem] theorem ct121 : cutTy Tryd.prog 121 = false := by kernel_rfl
@[go_sem] theorem so121 : solid Tryd.prog 121 = true := by kernel_rfl
@[go_sem] theorem ze121 : zeroV Tryd.prog 121 = some (.t .nilf) := by kernel_rfl
@[go_sem] theorem kd122 : kdOf Tryd.prog 122 = .fn := by kernel_rfl
@[go_sem] theorem ty122 : tyOf Tryd.prog 122 = some (false, 1) := by kernel_rfl
@[go_sem] theorem in122 : infoOf Tryd.prog 122 = some (1, 8) := by kernel_rfl
@[go_sem] theorem ct122 : cutTy Tryd.prog 122 = false := by kernel_rfl
@[go_sem] theorem so122 : solid Tryd.prog 122 = true := by kernel_rfl
@[go_sem] theorem ze122 : zeroV Tryd.prog 122 = some (.t .nilf) := by kernel_rfl
@[go_sem] theorem kd123 : kdOf Tryd.prog 123 = .fn := by kernel_rfl
@[go_sem] theorem ty123 : tyOf Tryd.prog 123 = some (false, 1) := by kernel_rfl
@[go_sem] theorem in123 : infoOf Tryd.prog 123 = some (1, 8) := by kernel_rfl
@[go_sem] theorem ct123 : cutTy Tryd.prog 123 = false := by kernel_rfl
@[go_sem] theorem so123 : solid Tryd.prog 123 = true := by kernel_rfl
@[go_sem] theorem ze123 : zeroV Tryd.prog 123 = some (.t .nilf) := by kernel_rfl
@[go_sem] theorem kd124 : kdOf Tryd.prog 124 = (.sl 5) := by kernel_rfl
@[go_sem] theorem ty124 : tyOf Tryd.prog 124 = some (false, 1) := by kernel_rfl
@[go_sem] theorem in124 : infoOf Tryd.prog 124 = some (1, 24) := by kernel_rfl
@[go_sem] theorem ct124 : cutTy Tryd.prog 124 = false := by kernel_rfl
@[go_sem] theorem so124 : solid Tryd.prog 124 = true := by kernel_rfl
@[go_sem] theorem ze124 : zeroV Tryd.prog 124 = some (.ex []) := by kernel_rfl
@[go_sem] theorem kd125 : kdOf Tryd.prog 125 = .fn := by kernel_rfl
@[go_sem] theorem ty125 : tyOf Tryd.prog 125 = some (false, 1) := by kernel_rfl
@[go_sem] theorem in125 : infoOf Tryd.prog 125 = some (1, 8) := by kernel_rfl
@[go_sem] theorem ct125 : cutTy Tryd.prog 125 = false := by kernel_rfl
@[go_sem] theorem so125 : solid Tryd.prog 125 = true := by kernel_rfl
@[go_sem] theorem ze125 : zeroV Tryd.prog 125 = some (.t .nilf) := by kernel_rfl
@[go_sem] theorem kd126 : kdOf Tryd.prog 126 = .other := by kernel_rfl
@[go_sem] theorem ty126 : tyOf Tryd.prog 126 = some (false, 1) := by kernel_rfl
@[go_sem] theorem in126 : infoOf Tryd.prog 126 = some (1, 0) := by kernel_rfl
@[go_sem] theorem ct126 : cutTy Tryd.prog 126 = false := by kernel_rfl
@[go_sem] theorem so126 : solid Tryd.prog 126 = true := by kernel_rfl
@[go_sem] theorem kd127 : kdOf Tryd.prog 127 = .fn := by kernel_rfl
@[go_sem] theorem ty127 : tyOf Tryd.prog 127 = some (false, 1) := by kernel_rfl
@[go_sem] theorem in127 : infoOf Tryd.prog 127 = some (1, 8) := by kernel_rfl
@[go_sem] theorem ct127 : cutTy Tryd.prog 127 = false := by kernel_rfl
@[go_sem] theorem so127 : solid Tryd.prog 127 = true := by kernel_rfl
@[go_sem] theorem ze127 : zeroV Tryd.prog 127 = some (.t .nilf) := by kernel_rfl
@[go_sem] theorem kd128 : kdOf Tryd.prog 128 = .fn := by kernel_rfl
@[go_sem] theorem ty128 : tyOf Tryd.prog 128 = some (false, 1) := by kernel_rfl
@[go_sem] theorem in128 : infoOf Tryd.prog 128 = some (1, 8) := by kernel_rfl
@[go_sem] theorem ct128 : cutTy Tryd.prog 128 = false := by kernel_rfl
@[go_sem] theorem so128 : solid Tryd.prog 128 = true := by kernel_rfl
@[go_sem] theorem ze128 : zeroV Tryd.prog 128 = some (.t .nilf) := by kernel_rfl
@[go_sem] theorem kd129 : kdOf Tryd.prog 129 = .ptr := by kernel_rfl
@[go_sem] theorem ty129 : tyOf Tryd.prog 129 = some (false, 1) := by kernel_rfl
@[go_sem] theorem in129 : infoOf Tryd.prog 129 = some (1, 8) := by kernel_rfl
@[go_sem] theorem ct129 : cutTy Tryd.prog 129 = false := by kernel_rfl
@[go_sem] theorem so129 : solid Tryd.prog 129 = true := by kernel_rfl
@[go_sem] theorem ze129 : zeroV Tryd.prog 129 = some (.t .nilp) := by kernel_rfl
@[go_sem] theorem kd130 : kdOf Tryd.prog 130 = .other := by kernel_rfl
@[go_sem] theorem ty130 : tyOf Tryd.prog 130 = some (false, 1) := by kernel_rfl
@[go_sem] theorem in130 : infoOf Tryd.prog 130 = some (1, 0) := by kernel_rfl
@[go_sem] theorem ct130 : cutTy Tryd.prog 130 = false := by kernel_rfl
@[go_sem] theorem so130 : solid Tryd.prog 130 = true := by kernel_rfl
@[go_sem] theorem kd131 : kdOf Tryd.prog 131 = .fn := by kernel_rfl
@[go_sem] theorem ty131 : tyOf Tryd.prog 131 = some (false, 1) := by kernel_rfl
@[go_sem] theorem in131 : infoOf Tryd.prog 131 = some (1, 8) := by kernel_rfl
@[go_sem] theorem ct131 : cutTy Tryd.prog 131 = false := by kernel_rfl
@[go_sem] theorem so131 : solid Tryd.prog 131 = true := by kernel_rfl
@[go_sem] theorem ze131 : zeroV Tryd.prog 131 = some (.t .nilf) := by kernel_rfl
@[go_sem] theorem kd132 : kdOf Tryd.prog 132 = .fn := by kernel_rfl
@[go_sem] theorem ty132 : tyOf Tryd.prog 132 = some (false, 1) := by kernel_rfl
@[go_sem] theorem in132 : infoOf Tryd.prog 132 = some (1, 8) := by kernel_rfl
@[go_sem] theorem ct132 : cutTy Tryd.prog 132 = false := by kernel_rfl
@[go_sem] theorem so132 : solid Tryd.prog 132 = true := by kernel_rfl
@[go_sem] theorem ze132 : zeroV Tryd.prog 132 = some (.t .nilf) := by kernel_rfl
@[go_sem] theorem kd133 : kdOf Tryd.prog 133 = .struct := by kernel_rfl
@[go_sem] theorem ty133 : tyOf Tryd.prog 133 = some (true, 2) := by kernel_rfl
@[go_sem] theorem in133 : infoOf Tryd.prog 133 = some (2, 24) := by kernel_rfl
@[go_sem] theorem ct133 : cutTy Tryd.prog 133 = false := by kernel_rfl
@[go_sem] theorem so133 : solid Tryd.prog 133 = true := by kernel_rfl
@[go_sem] theorem ze133 : zeroV Tryd.prog 133 = some (.t (.agg [(.str ByteArray.empty), (.int .i64 0)])) := by kernel_rfl
@[go_sem] theorem fs133 : fldsOf Tryd.prog 133 = some [(0, 1), (1, 1)] := by kernel_rfl
@[go_sem] theorem ff133x0 : fld1 Tryd.prog 133 0 = some 0 := by kernel_rfl
@[go_sem] theorem fl133x0 : fldOf Tryd.prog 133 0 = some (0, 1) := by kernel_rfl
@[go_sem] theorem ff133x1 : fld1 Tryd.prog 133 1 = some 1 := by kernel_rfl
@[go_sem] theorem fl133x1 : fldOf Tryd.prog 133 1 = some (1, 1) := by kernel_rfl
@[go_sem] theorem kd134 : kdOf Tryd.prog 134 = .struct := by kernel_rfl
@[go_sem] theorem ty134 : tyOf Tryd.prog 134 = some (true, 2) := by kernel_rfl
@[go_sem] theorem in134 : infoOf Tryd.prog 134 = some (2, 24) := by kernel_rfl
@[go_sem] theorem ct134 : cutTy Tryd.prog 134 = false := by kernel_rfl
@[go_sem] theorem so134 : solid Tryd.prog 134 = true := by kernel_rfl
@[go_sem] theorem ze134 : zeroV Tryd.prog 134 = some (.t (.agg [(.str ByteArray.empty), (.int .i64 0)])) := by kernel_rfl
@[go_sem] theorem fs134 : fldsOf Tryd.prog 134 = some [(0, 1), (1, 1)] := by kernel_rfl
@[go_sem] theorem ff134x0 : fld1 Tryd.prog 134 0 = some 0 := by kernel_rfl
@[go_sem] theorem fl134x0 : fldOf Tryd.prog 134 0 = some (0, 1) := by kernel_rfl
@[go_sem] theorem ff134x1 : fld1 Tryd.prog 134 1 = some 1 := by kernel_rfl
@[go_sem] theorem fl134x1 : fldOf Tryd.prog 134 1 = some (1, 1) := by kernel_rfl
@[go_sem] theorem kd135 : kdOf Tryd.prog 135 = .fn := by kernel_rfl
@[go_sem] theorem ty135 : tyOf Tryd.prog 135 = some (false, 1) := by kernel_rfl
@[go_sem] theorem in135 : infoOf Tryd.prog 135 = some (1, 8) := by kernel_rfl
@[go_sem] theorem ct135 : cutTy Tryd.prog 135 = false := by kernel_rfl
@[go_sem] theorem so135 : solid Tryd.prog 135 = true := by kernel_rfl
@[go_sem] theorem ze135 : zeroV Tryd.prog 135 = some (.t .nilf) := by kernel_rfl
@[go_sem] theorem kd136 : kdOf Tryd.prog 136 = .other := by kernel_rfl
@[go_sem] theorem ty136 : tyOf Tryd.prog 136 = some (false, 1) := by kernel_rfl
@[go_sem] theorem in136 : infoOf Tryd.prog 136 = some (1, 16) := by kernel_rfl
@[go_sem] theorem ct136 : cutTy Tryd.prog 136 = false := by kernel_rfl
@[go_sem] theorem ze136 : zeroV Tryd.prog 136 = some (.t .nili) := by kernel_rfl
@[go_sem] theorem kd137 : kdOf Tryd.prog 137 = .other := by kernel_rfl
@[go_sem] theorem ty137 : tyOf Tryd.prog 137 = some (false, 1) := by kernel_rfl
@[go_sem] theorem in137 : infoOf Tryd.prog 137 = some (1, 16) := by kernel_rfl
@[go_sem] theorem ct137 : cutTy Tryd.prog 137 = false := by kernel_rfl
@[go_sem] theorem ze137 : zeroV Tryd.prog 137 = some (.t .nili) := by kernel_rfl
@[go_sem] theorem kd138 : kdOf Tryd.prog 138 = .fn := by kernel_rfl
@[go_sem] theorem ty138 : tyOf Tryd.prog 138 = some (false, 1) := by kernel_rfl
@[go_sem] theorem in138 : infoOf Tryd.prog 138 = some (1, 8) := by kernel_rfl
@[go_sem] theorem ct138 : cutTy Tryd.prog 138 = false := by kernel_rfl
@[go_sem] theorem so138 : solid Tryd.prog 138 = true := by kernel_rfl
@[go_sem] theorem ze138 : zeroV Tryd.prog 138 = some (.t .nilf) := by kernel_rfl
@[go_sem] theorem kd139 : kdOf Tryd.prog 139 = .fn := by kernel_rfl
@[go_sem] theorem ty139 : tyOf Tryd.prog 139 = some (false, 1) := by kernel_rfl
@[go_sem] theorem in139 : infoOf Tryd.prog 139 = some (1, 8) := by kernel_rfl
@[go_sem] theorem ct139 : cutTy Tryd.prog 139 = false := by kernel_rfl
@[go_sem] theorem so139 : solid Tryd.prog 139 = true := by kernel_rfl
@[go_sem] theorem ze139 : zeroV Tryd.prog 139 = some (.t .nilf) := by kernel_rfl
@[go_sem] theorem kd140 : kdOf Tryd.prog 140 = .fn := by kernel_rfl
@[go_sem] theorem ty140 : tyOf Tryd.prog 140 = some (false, 1) := by kernel_rfl
@[go_sem] theorem in140 : infoOf Tryd.prog 140 = some (1, 8) := by kernel_rfl
@[go_sem] theorem ct140 : cutTy Tryd.prog 140 = false := by kernel_rfl
@[go_sem] theorem so140 : solid Tryd.prog 140 = true := by kernel_rfl
@[go_sem] theorem ze140 : zeroV Tryd.prog 140 = some (.t .nilf) := by kernel_rfl
@[go_sem] theorem kd141 : kdOf Tryd.prog 141 = .fn := by kernel_rfl
@[go_sem] theorem ty141 : tyOf Tryd.prog 141 = some (false, 1) := by kernel_rfl
@[go_sem] theorem in141 : infoOf Tryd.prog 141 = some (1, 8) := by kernel_rfl
@[go_sem] theorem ct141 : cutTy Tryd.prog 141 = false := by kernel_rfl
@[go_sem] theorem so141 : solid Tryd.prog 141 = true := by kernel_rfl
@[go_sem] theorem ze141 : zeroV Tryd.prog 141 = some (.t .nilf) := by kernel_rfl
@[go_sem] theorem kd142 : kdOf Tryd.prog 142 = .fn := by kernel_rfl
@[go_sem] theorem ty142 : tyOf Tryd.prog 142 = some (false, 1) := by kernel_rfl
@[go_sem] theorem in142 : infoOf Tryd.prog 142 = some (1, 8) := by kernel_rfl
@[go_sem] theorem ct142 : cutTy Tryd.prog 142 = false := by kernel_rfl
@[go_sem] theorem so142 : solid Tryd.prog 142 = true := by kernel_rfl
@[go_sem] theorem ze142 : zeroV Tryd.prog 142 = some (.t .nilf) := by kernel_rfl
@[go_sem] theorem kd143 : kdOf Tryd.prog 143 = (.arr 24 5) := by kernel_rfl
@[go_sem] theorem ty143 : tyOf Tryd.prog 143 = some (true, 24) := by kernel_rfl
@[go_sem] theorem in143 : infoOf Tryd.prog 143 = some (24, 24) := by kernel_rfl
@[go_sem] theorem ct143 : cutTy Tryd.prog 143 = false := by kernel_rfl
@[go_sem] theorem so143 : solid Tryd.prog 143 = true := by kernel_rfl
@[go_sem] theorem ze143 : zeroV Tryd.prog 143 = some (.t (.agg [(.int .u8 0), (.int .u8 0), (.int .u8 0), (.int .u8 0), (.int .u8 0), (.int .u8 0), (.int .u8 0), (.int .u8 0), (.int .u8 0), (.int .u8 0), (.int .u8 0), (.int .u8 0), (.int .u8 0), (.int .u8 0), (.int .u8 0), (.int .u8 0), (.int .u8 0), (.int .u8 0), (.int .u8 0), (.int .u8 0), (.int .u8 0), (.int .u8 0), (.int .u8 0), (.int .u8 0)])) := by kernel_rfl
@[go_sem] theorem kd144 : kdOf Tryd.prog 144 = .fn := by kernel_rfl
@[go_sem] theorem ty144 : tyOf Tryd.prog 144 = some (false, 1) := by kernel_rfl
@[go_sem] theorem in144 : infoOf Tryd.prog 144 = some (1, 8) := by kernel_rfl
@[go_sem] theorem ct144 : cutTy Tryd.prog 144 = false := by kernel_rfl
@[go_sem] theorem so144 : solid Tryd.prog 144 = true := by kernel_rfl
@[go_sem] theorem ze144 : zeroV Tryd.prog 144 = some (.t .nilf) := by kernel_rfl
@[go_sem] theorem kd145 : kdOf Tryd.prog 145 = .fn := by kernel_rfl
@[go_sem] theorem ty145 : tyOf Tryd.prog 145 = some (false, 1) := by kernel_rfl
@[go_sem] theorem in145 : infoOf Tryd.prog 145 = some (1, 8) := by kernel_rfl
@[go_sem] theorem ct145 : cutTy Tryd.prog 145 = false := by kernel_rfl
@[go_sem] theorem so145 : solid Tryd.prog 145 = true := by kernel_rfl
@[go_sem] theorem ze145 : zeroV Tryd.prog 145 = some (.t .nilf) := by kernel_rfl
@[go_sem] theorem kd146 : kdOf Tryd.prog 146 = .other := by kernel_rfl
@[go_sem] theorem ty146 : tyOf Tryd.prog 146 = some (false, 1) := by kernel_rfl
@[go_sem] theorem in146 : infoOf Tryd.prog 146 = some (1, 0) := by kernel_rfl
@[go_sem] theorem ct146 : cutTy Tryd.prog 146 = false := by kernel_rfl
@[go_sem] theorem so146 : solid Tryd.prog 146 = true := by kernel_rfl
@[go_sem] theorem kd147 : kdOf Tryd.prog 147 = .fn := by kernel_rfl
@[go_sem] theorem ty147 : tyOf Tryd.prog 147 = some (false, 1) := by kernel_rfl
@[go_sem] theorem in147 : infoOf Tryd.prog 147 = some (1, 8) := by kernel_rfl
@[go_sem] theorem ct147 : cutTy Tryd.prog 147 = false := by kernel_rfl
@[go_sem] theorem so147 : solid Tryd.prog 147 = true := by kernel_rfl
@[go_sem] theorem ze147 : zeroV Tryd.prog 147 = some (.t .nilf) := by kernel_rfl
@[go_sem] theorem kd148 : kdOf Tryd.prog 148 = .ptr := by kernel_rfl
@[go_sem] theorem ty148 : tyOf Tryd.prog 148 = some (false, 1) := by kernel_rfl
@[go_sem] theorem in148 : infoOf Tryd.prog 148 = some (1, 8) := by kernel_rfl
@[go_sem] theorem ct148 : cutTy Tryd.prog 148 = false := by kernel_rfl
@[go_sem] theorem so148 : solid Tryd.prog 148 = true := by kernel_rfl
@[go_sem] theorem me148xGrow : methOf Tryd.prog 148 "Grow" = some (101, none) := by kernel_rfl
@[go_sem] theorem me148xLen : methOf Tryd.prog 148 "Len" = some (170, none) := by kernel_rfl
@[go_sem] theorem me148xReset : methOf Tryd.prog 148 "Reset" = some (171, none) := by kernel_rfl
@[go_sem] theorem me148xString : methOf Tryd.prog 148 "String" = some (103, none) := by kernel_rfl
@[go_sem] theorem me148xWriteString : methOf Tryd.prog 148 "WriteString" = some (102, none) := by kernel_rfl
@[go_sem] theorem me148xstrings_copyCheck : methOf Tryd.prog 148 "strings.copyCheck" = some (127, none) := by kernel_rfl
@[go_sem] theorem me148xstrings_grow : methOf Tryd.prog 148 "strings.grow" = some (128, none) := by kernel_rfl
@[go_sem] theorem ze148 : zeroV Tryd.prog 148 = some (.t .nilp) := by kernel_rfl
@[go_sem] theorem kd149 : kdOf Tryd.prog 149 = .struct := by kernel_rfl
@[go_sem] theorem ty149 : tyOf Tryd.prog 149 = some (true, 2) := by kernel_rfl
@[go_sem] theorem in149 : infoOf Tryd.prog 149 = some (2, 32) := by kernel_rfl
@[go_sem] theorem ct149 : cutTy Tryd.prog 149 = false := by kernel_rfl
@[go_sem] theorem so149 : solid Tryd.prog 149 = true := by kernel_rfl
@[go_sem] theorem ze149 : zeroV Tryd.prog 149 = some (.agg [.t .nilp, .ex []]) := by kernel_rfl
@[go_sem] theorem fs149 : fldsOf Tryd.prog 149 = some [(0, 1), (1, 1)] := by kernel_rfl
@[go_sem] theorem ff149x0 : fld1 Tryd.prog 149 0 = some 0 := by kernel_rfl
@[go_sem] theorem fl149x0 : fldOf Tryd.prog 149 0 = some (0, 1) := by kernel_rfl
@[go_sem] theorem ff149x1 : fld1 Tryd.prog 149 1 = some 1 := by kernel_rfl
@[go_sem] theorem fl149x1 : fldOf Tryd.prog 149 1 = some (1, 1) := by kernel_rfl
@[go_sem] theorem kd150 : kdOf Tryd.prog 150 = .struct := by kernel_rfl
@[go_sem] theorem ty150 : tyOf Tryd.prog 150 = some (true, 2) := by kernel_rfl
@[go_sem] theorem in150 : infoOf Tryd.prog 150 = some (2, 32) := by kernel_rfl
@[go_sem] theorem ct150 : cutTy Tryd.prog 150 = false := by kernel_rfl
@[go_sem] theorem so150 : solid Tryd.prog 150 = true := by kernel_rfl
@[go_sem] theorem ze150 : zeroV Tryd.prog 150 = some (.agg [.t .nilp, .ex []]) := by kernel_rfl
@[go_sem] theorem fs150 : fldsOf Tryd.prog 150 = some [(0, 1), (1, 1)] := by kernel_rfl
@[go_sem] theorem ff150x0 : fld1 Tryd.prog 150 0 = some 0 := by kernel_rfl
@[go_sem] theorem fl150x0 : fldOf Tryd.prog 150 0 = some (0, 1) := by kernel_rfl
@[go_sem] theorem ff150x1 : fld1 Tryd.prog 150 1 = some 1 := by kernel_rfl
@[go_sem] theorem fl150x1 : fldOf Tryd.prog 150 1 = some (1, 1) := by kernel_rfl
@[go_sem] theorem kd151 : kdOf Tryd.prog 151 = .fn := by kernel_rfl
@[go_sem] theorem ty151 : tyOf Tryd.prog 151 = some (false, 1) := by kernel_rfl
@[go_sem] theorem in151 : infoOf Tryd.prog 151 = some (1, 8) := by kernel_rfl
@[go_sem] theorem ct151 : cutTy Tryd.prog 151 = false := by kernel_rfl
@[go_sem] theorem so151 : solid Tryd.prog 151 = true := by kernel_rfl
@[go_sem] theorem ze151 : zeroV Tryd.prog 151 = some (.t .nilf) := by kernel_rfl
@[go_sem] theorem kd152 : kdOf Tryd.prog 152 = .fn := by kernel_rfl
@[go_sem] theorem ty152 : tyOf Tryd.prog 152 = some (false, 1) := by kernel_rfl
@[go_sem] theorem in152 : infoOf Tryd.prog 152 = some (1, 8) := by kernel_rfl
@[go_sem] theorem ct152 : cutTy Tryd.prog 152 = false := by kernel_rfl
@[go_sem] theorem so152 : solid Tryd.prog 152 = true := by kernel_rfl
@[go_sem] theorem ze152 : zeroV Tryd.prog 152 = some (.t .nilf) := by kernel_rfl
@[go_sem] theorem kd153 : kdOf Tryd.prog 153 = .fn := by kernel_rfl
@[go_sem] theorem ty153 : tyOf Tryd.prog 153 = some (false, 1) := by kernel_rfl
@[go_sem] theorem in153 : infoOf Tryd.prog 153 = some (1, 8) := by kernel_rfl
@[go_sem] theorem ct153 : cutTy Tryd.prog 153 = false := by kernel_rfl
@[go_sem] theorem so153 : solid Tryd.prog 153 = true := by kernel_rfl
@[go_sem] theorem ze153 : zeroV Tryd.prog 153 = some (.t .nilf) := by kernel_rfl
@[go_sem] theorem kd154 : kdOf Tryd.prog 154 = (.int .i64) := by kernel_rfl
@[go_sem] theorem ty154 : tyOf Tryd.prog 154 = some (false, 1) := by kernel_rfl
@[go_sem] theorem in154 : infoOf Tryd.prog 154 = some (1, 8) := by kernel_rfl
@[go_sem] theorem ct154 : cutTy Tryd.prog 154 = false := by kernel_rfl
@[go_sem] theorem so154 : solid Tryd.prog 154 = true := by kernel_rfl
@[go_sem] theorem ze154 : zeroV Tryd.prog 154 = some (.t (.int .i64 0)) := by kernel_rfl
@[go_sem] theorem kd155 : kdOf Tryd.prog 155 = .fn := by kernel_rfl
@[go_sem] theorem ty155 : tyOf Tryd.prog 155 = some (false, 1) := by kernel_rfl
@[go_sem] theorem in155 : infoOf Tryd.prog 155 = some (1, 8) := by kernel_rfl
@[go_sem] theorem ct155 : cutTy Tryd.prog 155 = false := by kernel_rfl
@[go_sem] theorem so155 : solid Tryd.prog 155 = true := by kernel_rfl
@[go_sem] theorem ze155 : zeroV Tryd.prog 155 = some (.t .nilf) := by kernel_rfl
@[go_sem] theorem kd156 : kdOf Tryd.prog 156 = .ptr := by kernel_rfl
@[go_sem] theorem ty156 : tyOf Tryd.prog 156 = some (false, 1) := by kernel_rfl
@[go_sem] theorem in156 : infoOf Tryd.prog 156 = some (1, 8) := by kernel_rfl
@[go_sem] theorem ct156 : cutTy Tryd.prog 156 = false := by kernel_rfl
@[go_sem] theorem so156 : solid Tryd.prog 156 = true := by kernel_rfl
@[go_sem] theorem me156xError : methOf Tryd.prog 156 "Error" = some (173, none) := by kernel_rfl
@[go_sem] theorem ze156 : zeroV Tryd.prog 156 = some (.t .nilp) := by kernel_rfl
@[go_sem] theorem kd157 : kdOf Tryd.prog 157 = .fn := by kernel_rfl
@[go_sem] theorem ty157 : tyOf Tryd.prog 157 = some (false, 1) := by kernel_rfl
@[go_sem] theorem in157 : infoOf Tryd.prog 157 = some (1, 8) := by kernel_rfl
@[go_sem] theorem ct157 : cutTy Tryd.prog 157 = false := by kernel_rfl
@[go_sem] theorem so157 : solid Tryd.prog 157 = true := by kernel_rfl
@[go_sem] theorem ze157 : zeroV Tryd.prog 157 = some (.t .nilf) := by kernel_rfl
@[go_sem] theorem kd158 : kdOf Tryd.prog 158 = .fn := by kernel_rfl
@[go_sem] theorem ty158 : tyOf Tryd.prog 158 = some (false, 1) := by kernel_rfl
@[go_sem] theorem in158 : infoOf Tryd.prog 158 = some (1, 8) := by kernel_rfl
@[go_sem] theorem ct158 : cutTy Tryd.prog 158 = false := by kernel_rfl
@[go_sem] theorem so158 : solid Tryd.prog 158 = true := by kernel_rfl
@[go_sem] theorem ze158 : zeroV Tryd.prog 158 = some (.t .nilf) := by kernel_rfl
@[go_sem] theorem kd159 : kdOf Tryd.prog 159 = .other := by kernel_rfl
@[go_sem] theorem ty159 : tyOf Tryd.prog 159 = some (false, 1) := by kernel_rfl
@[go_sem] theorem in159 : infoOf Tryd.prog 159 = some (1, 0) := by kernel_rfl
@[go_sem] theorem ct159 : cutTy Tryd.prog 159 = false := by kernel_rfl
@[go_sem] theorem so159 : solid Tryd.prog 159 = true := by kernel_rfl
@[go_sem] theorem kd160 : kdOf Tryd.prog 160 = .fn := by kernel_rfl
@[go_sem] theorem ty160 : tyOf Tryd.prog 160 = some (false, 1) := by kernel_rfl
@[go_sem] theorem in160 : infoOf Tryd.prog 160 = some (1, 8) := by kernel_rfl
@[go_sem] theorem ct160 : cutTy Tryd.prog 160 = false := by kernel_rfl
@[go_sem] theorem so160 : solid Tryd.prog 160 = true := by kernel_rfl
@[go_sem] theorem ze160 : zeroV Tryd.prog 160 = some (.t .nilf) := by kernel_rfl
@[go_sem] theorem kd161 : kdOf Tryd.prog 161 = .fn := by kernel_rfl
@[go_sem] theorem ty161 : tyOf Tryd.prog 161 = some (false, 1) := by kernel_rfl
@[go_sem] theorem in161 : infoOf Tryd.prog 161 = some (1, 8) := by kernel_rfl
@[go_sem] theorem ct161 : cutTy Tryd.prog 161 = false := by kernel_rfl
@[go_sem] theorem so161 : solid Tryd.prog 161 = true := by kernel_rfl
@[go_sem] theorem ze161 : zeroV Tryd.prog 161 = some (.t .nilf) := by kernel_rfl
@[go_sem] theorem kd162 : kdOf Tryd.prog 162 = .other := by kernel_rfl
@[go_sem] theorem ty162 : tyOf Tryd.prog 162 = some (false, 1) := by kernel_rfl
@[go_sem] theorem in162 : infoOf Tryd.prog 162 = some (1, 0) := by kernel_rfl
@[go_sem] theorem ct162 : cutTy Tryd.prog 162 = false := by kernel_rfl
@[go_sem] theorem so162 : solid Tryd.prog 162 = true := by kernel_rfl
@[go_sem] theorem kd163 : kdOf Tryd.prog 163 = .fn := by kernel_rfl
@[go_sem] theorem ty163 : tyOf Tryd.prog 163 = some (false, 1) := by kernel_rfl
@[go_sem] theorem in163 : infoOf Tryd.prog 163 = some (1, 8) := by kernel_rfl
@[go_sem] theorem ct163 : cutTy Tryd.prog 163 = false := by kernel_rfl
@[go_sem] theorem so163 : solid Tryd.prog 163 = true := by kernel_rfl
@[go_sem] theorem ze163 : zeroV Tryd.prog 163 = some (.t .nilf) := by kernel_rfl
@[go_sem] theorem kd164 : kdOf Tryd.prog 164 = .fn := by kernel_rfl
@[go_sem] theorem ty164 : tyOf Tryd.prog 164 = some (false, 1) := by kernel_rfl
@[go_sem] theorem in164 : infoOf Tryd.prog 164 = some (1, 8) := by kernel_rfl
@[go_sem] theorem ct164 : cutTy Tryd.prog 164 = false := by kernel_rfl
@[go_sem] theorem so164 : solid Tryd.prog 164 = true := by kernel_rfl
@[go_sem] theorem ze164 : zeroV Tryd.prog 164 = some (.t .nilf) := by kernel_rfl
@[go_sem] theorem kd165 : kdOf Tryd.prog 165 = .fn := by kernel_rfl
@[go_sem] theorem ty165 : tyOf Tryd.prog 165 = some (false, 1) := by kernel_rfl
@[go_sem] theorem in165 : infoOf Tryd.prog 165 = some (1, 8) := by kernel_rfl
@[go_sem] theorem ct165 : cutTy Tryd.prog 165 = false := by kernel_rfl
@[go_sem] theorem so165 : solid Tryd.prog 165 = true := by kernel_rfl
@[go_sem] theorem ze165 : zeroV Tryd.prog 165 = some (.t .nilf) := by kernel_rfl
@[go_sem] theorem kd166 : kdOf Tryd.prog 166 = .fn := by kernel_rfl
@[go_sem] theorem ty166 : tyOf Tryd.prog 166 = some (false, 1) := by kernel_rfl
@[go_sem] theorem in166 : infoOf Tryd.prog 166 = some (1, 8) := by kernel_rfl
@[go_sem] theorem ct166 : cutTy Tryd.prog 166 = false := by kernel_rfl
@[go_sem] theorem so166 : solid Tryd.prog 166 = true := by kernel_rfl
@[go_sem] theorem ze166 : zeroV Tryd.prog 166 = some (.t .nilf) := by kernel_rfl
@[go_sem] theorem kd167 : kdOf Tryd.prog 167 = (.sl 134) := by kernel_rfl
@[go_sem] theorem ty167 : tyOf Tryd.prog 167 = some (false, 1) := by kernel_rfl
@[go_sem] theorem in167 : infoOf Tryd.prog 167 = some (1, 24) := by kernel_rfl
@[go_sem] theorem ct167 : cutTy Tryd.prog 167 = false := by kernel_rfl
@[go_sem] theorem so167 : solid Tryd.prog 167 = true := by kernel_rfl
@[go_sem] theorem ze167 : zeroV Tryd.prog 167 = some (.ex []) := by kernel_rfl
@[go_sem] theorem kd168 : kdOf Tryd.prog 168 = .fn := by kernel_rfl
@[go_sem] theorem ty168 : tyOf Tryd.prog 168 = some (false, 1) := by kernel_rfl
@[go_sem] theorem in168 : infoOf Tryd.prog 168 = some (1, 8) := by kernel_rfl
@[go_sem] theorem ct168 : cutTy Tryd.prog 168 = false := by kernel_rfl
@[go_sem] theorem so168 : solid Tryd.prog 168 = true := by kernel_rfl
@[go_sem] theorem ze168 : zeroV Tryd.prog 168 = some (.t .nilf) := by kernel_rfl
@[go_sem] theorem kd169 : kdOf Tryd.prog 169 = .fn := by kernel_rfl
@[go_sem] theorem ty169 : tyOf Tryd.prog 169 = some (false, 1) := by kernel_rfl
@[go_sem] theorem in169 : infoOf Tryd.prog 169 = some (1, 8) := by kernel_rfl
@[go_sem] theorem ct169 : cutTy Tryd.prog 169 = false := by kernel_rfl
@[go_sem] theorem so169 : solid Tryd.prog 169 = true := by kernel_rfl
@[go_sem] theorem ze169 : zeroV Tryd.prog 169 = some (.t .nilf) := by kernel_rfl
@[go_sem] theorem kd170 : kdOf Tryd.prog 170 = .fn := by kernel_rfl
@[go_sem] theorem ty170 : tyOf Tryd.prog 170 = some (false, 1) := by kernel_rfl
@[go_sem] theorem in170 : infoOf Tryd.prog 170 = some (1, 8) := by kernel_rfl
@[go_sem] theorem ct170 : cutTy Tryd.prog 170 = false := by kernel_rfl
@[go_sem] theorem so170 : solid Tryd.prog 170 = true := by kernel_rfl
@[go_sem] theorem ze170 : zeroV Tryd.prog 170 = some (.t .nilf) := by kernel_rfl
@[go_sem] theorem kd171 : kdOf Tryd.prog 171 = .fn := by kernel_rfl
@[go_sem] theorem ty171 : tyOf Tryd.prog 171 = some (false, 1) := by kernel_rfl
@[go_sem] theorem in171 : infoOf Tryd.prog 171 = some (1, 8) := by kernel_rfl
@[go_sem] theorem ct171 : cutTy Tryd.prog 171 = false := by kernel_rfl
@[go_sem] theorem so171 : solid Tryd.prog 171 = true := by kernel_rfl
@[go_sem] theorem ze171 : zeroV Tryd.prog 171 = some (.t .nilf) := by kernel_rfl
@[go_sem] theorem kd172 : kdOf Tryd.prog 172 = (.arr 20 67) := by kernel_rfl
@[go_sem] theorem ty172 : tyOf Tryd.prog 172 = some (true, 20) := by kernel_rfl
@[go_sem] theorem in172 : infoOf Tryd.prog 172 = some (20, 160) := by kernel_rfl
@[go_sem] theorem ct172 : cutTy Tryd.prog 172 = false := by kernel_rfl
@[go_sem] theorem so172 : solid Tryd.prog 172 = true := by kernel_rfl
@[go_sem] theorem ze172 : zeroV Tryd.prog 172 = some (.t (.agg [(.int .u64 0), (.int .u64 0), (.int .u64 0), (.int .u64 0), (.int .u64 0), (.int .u64 0), (.int .u64 0), (.int .u64 0), (.int .u64 0), (.int .u64 0), (.int .u64 0), (.int .u64 0), (.int .u64 0), (.int .u64 0), (.int .u64 0), (.int .u64 0), (.int .u64 0), (.int .u64 0), (.int .u64 0), (.int .u64 0)])) := by kernel_rfl
@[go_sem] theorem kd173 : kdOf Tryd.prog 173 = (.arr 65 5) := by kernel_rfl
@[go_sem] theorem ty173 : tyOf Tryd.prog 173 = some (true, 65) := by kernel_rfl
@[go_sem] theorem in173 : infoOf Tryd.prog 173 = some (65, 65) := by kernel_rfl
@[go_sem] theorem ct173 : cutTy Tryd.prog 173 = false := by kernel_rfl
@[go_sem] theorem so173 : solid Tryd.prog 173 = true := by kernel_rfl
@[go_sem] theorem ze173 : zeroV Tryd.prog 173 = some (.t (.agg [(.int .u8 0), (.int .u8 0), (.int .u8 0), (.int .u8 0), (.int .u8 0), (.int .u8 0), (.int .u8 0), (.int .u8 0), (.int .u8 0), (.int .u8 0), (.int .u8 0), (.int .u8 0), (.int .u8 0), (.int .u8 0), (.int .u8 0), (.int .u8 0), (.int .u8 0), (.int .u8 0), (.int .u8 0), (.int .u8 0), (.int .u8 0), (.int .u8 0), (.int .u8 0), (.int .u8 0), (.int .u8 0), (.int .u8 0), (.int .u8 0), (.int .u8 0), (.int .u8 0), (.int .u8 0), (.int .u8 0), (.int .u8 0), (.int .u8 0), (.int .u8 0), (.int .u8 0), (.int .u8 0), (.int .u8 0), (.int .u8 0), (.int .u8 0), (.int .u8 0), (.int .u8 0), (.int .u8 0), (.int .u8 0), (.int .u8 0), (.int .u8 0), (.int .u8 0), (.int .u8 0), (.int .u8 0), (.int .u8 0), (.int .u8 0), (.int .u8 0), (.int .u8 0), (.int .u8 0), (.int .u8 0), (.int .u8 0), (.int .u8 0), (.int .u8 0), (.int .u8 0), (.int .u8 0), (.int .u8 0), (.int .u8 0), (.int .u8 0), (.int .u8 0), (.int .u8 0), (.int .u8 0)])) := by kernel_rfl
@[go_sem] theorem kd174 : kdOf Tryd.prog 174 = .fn := by kernel_rfl
@[go_sem] theorem ty174 : tyOf Tryd.prog 174 = some (false, 1) := by kernel_rfl
@[go_sem] theorem in174 : infoOf Tryd.prog 174 = some (1, 8) := by kernel_rfl
@[go_sem] theorem ct174 : cutTy Tryd.prog 174 = false := by kernel_rfl
@[go_sem] theorem so174 : solid Tryd.prog 174 = true := by kernel_rfl
@[go_sem] theorem ze174 : zeroV Tryd.prog 174 = some (.t .nilf) := by kernel_rfl
@[go_sem] theorem kd175 : kdOf Tryd.prog 175 = .ptr := by kernel_rfl
@[go_sem] theorem ty175 : tyOf Tryd.prog 175 = some (false, 1) := by kernel_rfl
@[go_sem] theorem in175 : infoOf Tryd.prog 175 = some (1, 8) := by kernel_rfl
@[go_sem] theorem ct175 : cutTy Tryd.prog 175 = false := by kernel_rfl
@[go_sem] theorem so175 : solid Tryd.prog 175 = true := by kernel_rfl
@[go_sem] theorem ze175 : zeroV Tryd.prog 175 = some (.t .nilp) := by kernel_rfl
@[go_sem] theorem kd176 : kdOf Tryd.prog 176 = .fn := by kernel_rfl
@[go_sem] theorem ty176 : tyOf Tryd.prog 176 = some (false, 1) := by kernel_rfl
@[go_sem] theorem in176 : infoOf Tryd.prog 176 = some (1, 8) := by kernel_rfl
@[go_sem] theorem ct176 : cutTy Tryd.prog 176 = false := by kernel_rfl
@[go_sem] theorem so176 : solid Tryd.prog 176 = true := by kernel_rfl
@[go_sem] theorem ze176 : zeroV Tryd.prog 176 = some (.t .nilf) := by kernel_rfl
@[go_sem] theorem kd177 : kdOf Tryd.prog 177 = .fn := by kernel_rfl
@[go_sem] theorem ty177 : tyOf Tryd.prog 177 = some (false, 1) := by kernel_rfl
@[go_sem] theorem in177 : infoOf Tryd.prog 177 = some (1, 8) := by kernel_rfl
@[go_sem] theorem ct177 : cutTy Tryd.prog 177 = false := by kernel_rfl
@[go_sem] theorem so177 : solid Tryd.prog 177 = true := by kernel_rfl
@[go_sem] theorem ze177 : zeroV Tryd.prog 177 = some (.t .nilf) := by kernel_rfl
@[go_sem] theorem kd178 : kdOf Tryd.prog 178 = .struct := by kernel_rfl
@[go_sem] theorem ty178 : tyOf Tryd.prog 178 = some (true, 3) := by kernel_rfl
@[go_sem] theorem in178 : infoOf Tryd.prog 178 = some (3, 48) := by kernel_rfl
@[go_sem] theorem ct178 : cutTy Tryd.prog 178 = false := by kernel_rfl
@[go_sem] theorem so178 : solid Tryd.prog 178 = true := by kernel_rfl
@[go_sem] theorem ze178 : zeroV Tryd.prog 178 = some (.t (.agg [(.str ByteArray.empty), (.str ByteArray.empty), .nili])) := by kernel_rfl
@[go_sem] theorem fs178 : fldsOf Tryd.prog 178 = some [(0, 1), (1, 1), (2, 1)] := by kernel_rfl
@[go_sem] theorem ff178x0 : fld1 Tryd.prog 178 0 = some 0 := by kernel_rfl
@[go_sem] theorem fl178x0 : fldOf Tryd.prog 178 0 = some (0, 1) := by kernel_rfl
@[go_sem] theorem ff178x1 : fld1 Tryd.prog 178 1 = some 1 := by kernel_rfl
@[go_sem] theorem fl178x1 : fldOf Tryd.prog 178 1 = some (1, 1) := by kernel_rfl
@[go_sem] theorem ff178x2 : fld1 Tryd.prog 178 2 = some 2 := by kernel_rfl
@[go_sem] theorem fl178x2 : fldOf Tryd.prog 178 2 = some (2, 1) := by kernel_rfl
@[go_sem] theorem kd179 : kdOf Tryd.prog 179 = .struct := by kernel_rfl
@[go_sem] theorem ty179 : tyOf Tryd.prog 179 = some (true, 3) := by kernel_rfl
@[go_sem] theorem in179 : infoOf Tryd.prog 179 = some (3, 48) := by kernel_rfl
@[go_sem] theorem ct179 : cutTy Tryd.prog 179 = false := by kernel_rfl
@[go_sem] theorem so179 : solid Tryd.prog 179 = true := by kernel_rfl
@[go_sem] theorem ze179 : zeroV Tryd.prog 179 = some (.t (.agg [(.str ByteArray.empty), (.str ByteArray.empty), .nili])) := by kernel_rfl
@[go_sem] theorem fs179 : fldsOf Tryd.prog 179 = some [(0, 1), (1, 1), (2, 1)] := by kernel_rfl
@[go_sem] theorem ff179x0 : fld1 Tryd.prog 179 0 = some 0 := by kernel_rfl
@[go_sem] theorem fl179x0 : fldOf Tryd.prog 179 0 = some (0, 1) := by kernel_rfl
@[go_sem] theorem ff179x1 : fld1 Tryd.prog 179 1 = some 1 := by kernel_rfl
@[go_sem] theorem fl179x1 : fldOf Tryd.prog 179 1 = some (1, 1) := by kernel_rfl
@[go_sem] theorem ff179x2 : fld1 Tryd.prog 179 2 = some 2 := by kernel_rfl
@[go_sem] theorem fl179x2 : fldOf Tryd.prog 179 2 = some (2, 1) := by kernel_rfl
@[go_sem] theorem kd180 : kdOf Tryd.prog 180 = .fn := by kernel_rfl
@[go_sem] theorem ty180 : tyOf Tryd.prog 180 = some (false, 1) := by kernel_rfl
@[go_sem] theorem in180 : infoOf Tryd.prog 180 = some (1, 8) := by kernel_rfl
@[go_sem] theorem ct180 : cutTy Tryd.prog 180 = false := by kernel_rfl
@[go_sem] theorem so180 : solid Tryd.prog 180 = true := by kernel_rfl
@[go_sem] theorem ze180 : zeroV Tryd.prog 180 = some (.t .nilf) := by kernel_rfl
@[go_sem] theorem kd181 : kdOf Tryd.prog 181 = .fn := by kernel_rfl
@[go_sem] theorem ty181 : tyOf Tryd.prog 181 = some (false, 1) := by kernel_rfl
@[go_sem] theorem in181 : infoOf Tryd.prog 181 = some (1, 8) := by kernel_rfl
@[go_sem] theorem ct181 : cutTy Tryd.prog 181 = false := by kernel_rfl
@[go_sem] theorem so181 : solid Tryd.prog 181 = true := by kernel_rfl
@[go_sem] theorem ze181 : zeroV Tryd.prog 181 = some (.t .nilf) := by kernel_rfl
@[go_sem] theorem kd182 : kdOf Tryd.prog 182 = .struct := by kernel_rfl
@[go_sem] theorem ty182 : tyOf Tryd.prog 182 = some (true, 4) := by kernel_rfl
@[go_sem] theorem in182 : infoOf Tryd.prog 182 = some (4, 32) := by kernel_rfl
@[go_sem] theorem ct182 : cutTy Tryd.prog 182 = false := by kernel_rfl
@[go_sem] theorem so182 : solid Tryd.prog 182 = true := by kernel_rfl
@[go_sem] theorem ze182 : zeroV Tryd.prog 182 = some (.t (.agg [(.int .i64 0), (.int .i64 0), (.int .i64 0), (.int .i64 0)])) := by kernel_rfl
@[go_sem] theorem fs182 : fldsOf Tryd.prog 182 = some [(0, 1), (1, 1), (2, 1), (3, 1)] := by kernel_rfl
@[go_sem] theorem ff182x0 : fld1 Tryd.prog 182 0 = some 0 := by kernel_rfl
@[go_sem] theorem fl182x0 : fldOf Tryd.prog 182 0 = some (0, 1) := by kernel_rfl
@[go_sem] theorem ff182x1 : fld1 Tryd.prog 182 1 = some 1 := by kernel_rfl
@[go_sem] theorem fl182x1 : fldOf Tryd.prog 182 1 = some (1, 1) := by kernel_rfl
@[go_sem] theorem ff182x2 : fld1 Tryd.prog 182 2 = some 2 := by kernel_rfl
@[go_sem] theorem fl182x2 : fldOf Tryd.prog 182 2 = some (2, 1) := by kernel_rfl
@[go_sem] theorem ff182x3 : fld1 Tryd.prog 182 3 = some 3 := by kernel_rfl
@[go_sem] theorem fl182x3 : fldOf Tryd.prog 182 3 = some (3, 1) := by kernel_rfl
@[go_sem] theorem kd183 : kdOf Tryd.prog 183 = (.sl 182) := by kernel_rfl
@[go_sem] theorem ty183 : tyOf Tryd.prog 183 = some (false, 1) := by kernel_rfl
@[go_sem] theorem in183 : infoOf Tryd.prog 183 = some (1, 24) := by kernel_rfl
@[go_sem] theorem ct183 : cutTy Tryd.prog 183 = false := by kernel_rfl
@[go_sem] theorem so183 : solid Tryd.prog 183 = true := by kernel_rfl
@[go_sem] theorem ze183 : zeroV Tryd.prog 183 = some (.ex []) := by kernel_rfl
@[go_sem] theorem kd184 : kdOf Tryd.prog 184 = .fn := by kernel_rfl
@[go_sem] theorem ty184 : tyOf Tryd.prog 184 = some (false, 1) := by kernel_rfl
@[go_sem] theorem in184 : infoOf Tryd.prog 184 = some (1, 8) := by kernel_rfl
@[go_sem] theorem ct184 : cutTy Tryd.prog 184 = false := by kernel_rfl
@[go_sem] theorem so184 : solid Tryd.prog 184 = true := by kernel_rfl
@[go_sem] theorem ze184 : zeroV Tryd.prog 184 = some (.t .nilf) := by kernel_rfl
@[go_sem] theorem kd185 : kdOf Tryd.prog 185 = .fn := by kernel_rfl
@[go_sem] theorem ty185 : tyOf Tryd.prog 185 = some (false, 1) := by kernel_rfl
@[go_sem] theorem in185 : infoOf Tryd.prog 185 = some (1, 8) := by kernel_rfl
@[go_sem] theorem ct185 : cutTy Tryd.prog 185 = false := by kernel_rfl
@[go_sem] theorem so185 : solid Tryd.prog 185 = true := by kernel_rfl
@[go_sem] theorem ze185 : zeroV Tryd.prog 185 = some (.t .nilf) := by kernel_rfl
@[go_sem] theorem kd186 : kdOf Tryd.prog 186 = .other := by kernel_rfl
@[go_sem] theorem ty186 : tyOf Tryd.prog 186 = some (false, 1) := by kernel_rfl
@[go_sem] theorem in186 : infoOf Tryd.prog 186 = some (1, 8) := by kernel_rfl
@[go_sem] theorem ct186 : cutTy Tryd.prog 186 = false := by kernel_rfl
@[go_sem] theorem so186 : solid Tryd.prog 186 = true := by kernel_rfl
@[go_sem] theorem ze186 : zeroV Tryd.prog 186 = some (.t .nilp) := by kernel_rfl
@[go_sem] theorem kd187 : kdOf Tryd.prog 187 = .fn := by kernel_rfl
@[go_sem] theorem ty187 : tyOf Tryd.prog 187 = some (false, 1) := by kernel_rfl
@[go_sem] theorem in187 : infoOf Tryd.prog 187 = some (1, 8) := by kernel_rfl
@[go_sem] theorem ct187 : cutTy Tryd.prog 187 = false := by kernel_rfl
@[go_sem] theorem so187 : solid Tryd.prog 187 = true := by kernel_rfl
@[go_sem] theorem ze187 : zeroV Tryd.prog 187 = some (.t .nilf) := by kernel_rfl
@[go_sem] theorem kd188 : kdOf Tryd.prog 188 = .fn := by kernel_rfl
@[go_sem] theorem ty188 : tyOf Tryd.prog 188 = some (false, 1) := by kernel_rfl
@[go_sem] theorem in188 : infoOf Tryd.prog 188 = some (1, 8) := by kernel_rfl
@[go_sem] theorem ct188 : cutTy Tryd.prog 188 = false := by kernel_rfl
@[go_sem] theorem so188 : solid Tryd.prog 188 = true := by kernel_rfl
@[go_sem] theorem ze188 : zeroV Tryd.prog 188 = some (.t .nilf) := by kernel_rfl
@[go_sem] theorem kd189 : kdOf Tryd.prog 189 = .ptr := by kernel_rfl
@[go_sem] theorem ty189 : tyOf Tryd.prog 189 = some (false, 1) := by kernel_rfl
@[go_sem] theorem in189 : infoOf Tryd.prog 189 = some (1, 8) := by kernel_rfl
@[go_sem] theorem ct189 : cutTy Tryd.prog 189 = false := by kernel_rfl
@[go_sem] theorem so189 : solid Tryd.prog 189 = true := by kernel_rfl
@[go_sem] theorem me189xError : methOf Tryd.prog 189 "Error" = some (174, none) := by kernel_rfl
@[go_sem] theorem ze189 : zeroV Tryd.prog 189 = some (.t .nilp) := by kernel_rfl
@[go_sem] theorem kd190 : kdOf Tryd.prog 190 = .struct := by kernel_rfl
@[go_sem] theorem ty190 : tyOf Tryd.prog 190 = some (true, 1) := by kernel_rfl
@[go_sem] theorem in190 : infoOf Tryd.prog 190 = some (1, 16) := by kernel_rfl
@[go_sem] theorem ct190 : cutTy Tryd.prog 190 = false := by kernel_rfl
@[go_sem] theorem so190 : solid Tryd.prog 190 = true := by kernel_rfl
@[go_sem] theorem ze190 : zeroV Tryd.prog 190 = some (.t (.agg [(.str ByteArray.empty)])) := by kernel_rfl
@[go_sem] theorem fs190 : fldsOf Tryd.prog 190 = some [(0, 1)] := by kernel_rfl
@[go_sem] theorem ff190x0 : fld1 Tryd.prog 190 0 = some 0 := by kernel_rfl
@[go_sem] theorem fl190x0 : fldOf Tryd.prog 190 0 = some (0, 1) := by kernel_rfl
@[go_sem] theorem kd191 : kdOf Tryd.prog 191 = .struct := by kernel_rfl
@[go_sem] theorem ty191 : tyOf Tryd.prog 191 = some (true, 1) := by kernel_rfl
@[go_sem] theorem in191 : infoOf Tryd.prog 191 = some (1, 16) := by kernel_rfl
@[go_sem] theorem ct191 : cutTy Tryd.prog 191 = false := by kernel_rfl
@[go_sem] theorem so191 : solid Tryd.prog 191 = true := by kernel_rfl
@[go_sem] theorem ze191 : zeroV Tryd.prog 191 = some (.t (.agg [(.str ByteArray.empty)])) := by kernel_rfl
@[go_sem] theorem fs191 : fldsOf Tryd.prog 191 = some [(0, 1)] := by kernel_rfl
@[go_sem] theorem ff191x0 : fld1 Tryd.prog 191 0 = some 0 := by kernel_rfl
@[go_sem] theorem fl191x0 : fldOf Tryd.prog 191 0 = some (0, 1) := by kernel_rfl
@[go_sem] theorem kd192 : kdOf Tryd.prog 192 = (.arr 256 5) := by kernel_rfl
@[go_sem] theorem ty192 : tyOf Tryd.prog 192 = some (true, 256) := by kernel_rfl
@[go_sem] theorem in192 : infoOf Tryd.prog 192 = some (256, 256) := by kernel_rfl
@[go_sem] theorem ct192 : cutTy Tryd.prog 192 = false := by kernel_rfl
@[go_sem] theorem so192 : solid Tryd.prog 192 = true := by kernel_rfl
@[go_sem] theorem ze192 : zeroV Tryd.prog 192 = some (.t (.agg [(.int .u8 0), (.int .u8 0), (.int .u8 0), (.int .u8 0), (.int .u8 0), (.int .u8 0), (.int .u8 0), (.int .u8 0), (.int .u8 0), (.int .u8 0), (.int .u8 0), (.int .u8 0), (.int .u8 0), (.int .u8 0), (.int .u8 0), (.int .u8 0), (.int .u8 0), (.int .u8 0), (.int .u8 0), (.int .u8 0), (.int .u8 0), (.int .u8 0), (.int .u8 0), (.int .u8 0), (.int .u8 0), (.int .u8 0), (.int .u8 0), (.int .u8 0), (.int .u8 0), (.int .u8 0), (.int .u8 0), (.int .u8 0), (.int .u8 0), (.int .u8 0), (.int .u8 0), (.int .u8 0), (.int .u8 0), (.int .u8 0), (.int .u8 0), (.int .u8 0), (.int .u8 0), (.int .u8 0), (.int .u8 0), (.int .u8 0), (.int .u8 0), (.int .u8 0), (.int .u8 0), (.int .u8 0), (.int .u8 0), (.int .u8 0), (.int .u8 0), (.int .u8 0), (.int .u8 0), (.int .u8 0), (.int .u8 0), (.int .u8 0), (.int .u8 0), (.int .u8 0), (.int .u8 0), (.int .u8 0), (.int .u8 0), (.int .u8 0), (.int .u8 0), (.int .u8 0), (.int .u8 0), (.int .u8 0), (.int .u8 0), (.int .u8 0), (.int .u8 0), (.int .u8 0), (.int .u8 0), (.int .u8 0), (.int .u8 0), (.int .u8 0), (.int .u8 0), (.int .u8 0), (.int .u8 0), (.int .u8 0), (.int .u8 0), (.int .u8 0), (.int .u8 0), (.int .u8 0), (.int .u8 0), (.int .u8 0), (.int .u8 0), (.int .u8 0), (.int .u8 0), (.int .u8 0), (.int .u8 0), (.int .u8 0), (.int .u8 0), (.int .u8 0), (.int .u8 0), (.int .u8 0), (.int .u8 0), (.int .u8 0), (.int .u8 0), (.int .u8 0), (.int .u8 0), (.int .u8 0), (.int .u8 0), (.int .u8 0), (.int .u8 0), (.int .u8 0), (.int .u8 0), (.int .u8 0), (.int .u8 0), (.int .u8 0), (.int .u8 0), (.int .u8 0), (.int .u8 0), (.int .u8 0), (.int .u8 0), (.int .u8 0), (.int .u8 0), (.int .u8 0), (.int .u8 0), (.int .u8 0), (.int .u8 0), (.int .u8 0), (.int .u8 0), (.int .u8 0), (.int .u8 0), (.int .u8 0), (.int .u8 0), (.int .u8 0), (.int .u8 0), (.int .u8 0), (.int .u8 0), (.int .u8 0), (.int .u8 0), (.int .u8 0), (.int .u8 0), (.int .u8 0), (.int .u8 0), (.int .u8 0), (.int .u8 0), (.int .u8 0), (.int .u8 0), (.int .u8 0), (.int .u8 0), (.int .u8 0), (.int .u8 0), (.int .u8 0), (.int .u8 0), (.int .u8 0), (.int .u8 0), (.int .u8 0), (.int .u8 0), (.int .u8 0), (.int .u8 0), (.int .u8 0), (.int .u8 0), (.int .u8 0), (.int .u8 0), (.int .u8 0), (.int .u8 0), (.int .u8 0), (.int .u8 0), (.int .u8 0), (.int .u8 0), (.int .u8 0), (.int .u8 0), (.int .u8 0), (.int .u8 0), (.int .u8 0), (.int .u8 0), (.int .u8 0), (.int .u8 0), (.int .u8 0), (.int .u8 0), (.int .u8 0), (.int .u8 0), (.int .u8 0), (.int .u8 0), (.int .u8 0), (.int .u8 0), (.int .u8 0), (.int .u8 0), (.int .u8 0), (.int .u8 0), (.int .u8 0), (.int .u8 0), (.int .u8 0), (.int .u8 0), (.int .u8 0), (.int .u8 0), (.int .u8 0), (.int .u8 0), (.int .u8 0), (.int .u8 0), (.int .u8 0), (.int .u8 0), (.int .u8 0), (.int .u8 0), (.int .u8 0), (.int .u8 0), (.int .u8 0), (.int .u8 0), (.int .u8 0), (.int .u8 0), (.int .u8 0), (.int .u8 0), (.int .u8 0), (.int .u8 0), (.int .u8 0), (.int .u8 0), (.int .u8 0), (.int .u8 0), (.int .u8 0), (.int .u8 0), (.int .u8 0), (.int .u8 0), (.int .u8 0), (.int .u8 0), (.int .u8 0), (.int .u8 0), (.int .u8 0), (.int .u8 0), (.int .u8 0), (.int .u8 0), (.int .u8 0), (.int .u8 0), (.int .u8 0), (.int .u8 0), (.int .u8 0), (.int .u8 0), (.int .u8 0), (.int .u8 0), (.int .u8 0), (.int .u8 0), (.int .u8 0), (.int .u8 0), (.int .u8 0), (.int .u8 0), (.int .u8 0), (.int .u8 0), (.int .u8 0), (.int .u8 0), (.int .u8 0), (.int .u8 0), (.int .u8 0), (.int .u8 0), (.int .u8 0), (.int .u8 0), (.int .u8 0), (.int .u8 0), (.int .u8 0), (.int .u8 0), (.int .u8 0), (.int .u8 0), (.int .u8 0), (.int .u8 0), (.int .u8 0), (.int .u8 0), (.int .u8 0)])) := by kernel_rfl
@[go_sem] theorem kd193 : kdOf Tryd.prog 193 = .struct := by kernel_rfl
@[go_sem] theorem ty193 : tyOf Tryd.prog 193 = some (true, 2) := by kernel_rfl
@[go_sem] theorem in193 : infoOf Tryd.prog 193 = some (2, 2) := by kernel_rfl
@[go_sem] theorem ct193 : cutTy Tryd.prog 193 = false := by kernel_rfl
@[go_sem] theorem so193 : solid Tryd.prog 193 = true := by kernel_rfl
@[go_sem] theorem ze193 : zeroV Tryd.prog 193 = some (.t (.agg [(.int .u8 0), (.int .u8 0)])) := by kernel_rfl
@[go_sem] theorem fs193 : fldsOf Tryd.prog 193 = some [(0, 1), (1, 1)] := by kernel_rfl
@[go_sem] theorem ff193x0 : fld1 Tryd.prog 193 0 = some 0 := by kernel_rfl
@[go_sem] theorem fl193x0 : fldOf Tryd.prog 193 0 = some (0, 1) := by kernel_rfl
@[go_sem] theorem ff193x1 : fld1 Tryd.prog 193 1 = some 1 := by kernel_rfl
@[go_sem] theorem fl193x1 : fldOf Tryd.prog 193 1 = some (1, 1) := by kernel_rfl
@[go_sem] theorem kd194 : kdOf Tryd.prog 194 = .struct := by kernel_rfl
@[go_sem] theorem ty194 : tyOf Tryd.prog 194 = some (true, 2) := by kernel_rfl
@[go_sem] theorem in194 : infoOf Tryd.prog 194 = some (2, 2) := by kernel_rfl
@[go_sem] theorem ct194 : cutTy Tryd.prog 194 = false := by kernel_rfl
@[go_sem] theorem so194 : solid Tryd.prog 194 = true := by kernel_rfl
@[go_sem] theorem ze194 : zeroV Tryd.prog 194 = some (.t (.agg [(.int .u8 0), (.int .u8 0)])) := by kernel_rfl
@[go_sem] theorem fs194 : fldsOf Tryd.prog 194 = some [(0, 1), (1, 1)] := by kernel_rfl
@[go_sem] theorem ff194x0 : fld1 Tryd.prog 194 0 = some 0 := by kernel_rfl
@[go_sem] theorem fl194x0 : fldOf Tryd.prog 194 0 = some (0, 1) := by kernel_rfl
@[go_sem] theorem ff194x1 : fld1 Tryd.prog 194 1 = some 1 := by kernel_rfl
@[go_sem] theorem fl194x1 : fldOf Tryd.prog 194 1 = some (1, 1) := by kernel_rfl
@[go_sem] theorem kd195 : kdOf Tryd.prog 195 = (.arr 16 194) := by kernel_rfl
@[go_sem] theorem ty195 : tyOf Tryd.prog 195 = some (true, 32) := by kernel_rfl
@[go_sem] theorem in195 : infoOf Tryd.prog 195 = some (32, 32) := by kernel_rfl
@[go_sem] theorem ct195 : cutTy Tryd.prog 195 = false := by kernel_rfl
@[go_sem] theorem so195 : solid Tryd.prog 195 = true := by kernel_rfl
@[go_sem] theorem ze195 : zeroV Tryd.prog 195 = some (.t (.agg [(.int .u8 0), (.int .u8 0), (.int .u8 0), (.int .u8 0), (.int .u8 0), (.int .u8 0), (.int .u8 0), (.int .u8 0), (.int .u8 0), (.int .u8 0), (.int .u8 0), (.int .u8 0), (.int .u8 0), (.int .u8 0), (.int .u8 0), (.int .u8 0), (.int .u8 0), (.int .u8 0), (.int .u8 0), (.int .u8 0), (.int .u8 0), (.int .u8 0), (.int .u8 0), (.int .u8 0), (.int .u8 0), (.int .u8 0), (.int .u8 0), (.int .u8 0), (.int .u8 0), (.int .u8 0), (.int .u8 0), (.int .u8 0)])) := by kernel_rfl
@[go_sem] theorem kd196 : kdOf Tryd.prog 196 = (.arr 32 5) := by kernel_rfl
@[go_sem] theorem ty196 : tyOf Tryd.prog 196 = some (true, 32) := by kernel_rfl
@[go_sem] theorem in196 : infoOf Tryd.prog 196 = some (32, 32) := by kernel_rfl
@[go_sem] theorem ct196 : cutTy Tryd.prog 196 = false := by kernel_rfl
@[go_sem] theorem so196 : solid Tryd.prog 196 = true := by kernel_rfl
@[go_sem] theorem ze196 : zeroV Tryd.prog 196 = some (.t (.agg [(.int .u8 0), (.int .u8 0), (.int .u8 0), (.int .u8 0), (.int .u8 0), (.int .u8 0), (.int .u8 0), (.int .u8 0), (.int .u8 0), (.int .u8 0), (.int .u8 0), (.int .u8 0), (.int .u8 0), (.int .u8 0), (.int .u8 0), (.int .u8 0), (.int .u8 0), (.int .u8 0), (.int .u8 0), (.int .u8 0), (.int .u8 0), (.int .u8 0), (.int .u8 0), (.int .u8 0), (.int .u8 0), (.int .u8 0), (.int .u8 0), (.int .u8 0), (.int .u8 0), (.int .u8 0), (.int .u8 0), (.int .u8 0)])) := by kernel_rfl
@[go_sem] theorem kd197 : kdOf Tryd.prog 197 = (.arr 64 5) := by kernel_rfl
@[go_sem] theorem ty197 : tyOf Tryd.prog 197 = some (true, 64) := by kernel_rfl
@[go_sem] theorem in197 : infoOf Tryd.prog 197 = some (64, 64) := by kernel_rfl
@[go_sem] theorem ct197 : cutTy Tryd.prog 197 = false := by kernel_rfl
@[go_sem] theorem so197 : solid Tryd.prog 197 = true := by kernel_rfl
@[go_sem] theorem ze197 : zeroV Tryd.prog 197 = some (.t (.agg [(.int .u8 0), (.int .u8 0), (.int .u8 0), (.int .u8 0), (.int .u8 0), (.int .u8 0), (.int .u8 0), (.int .u8 0), (.int .u8 0), (.int .u8 0), (.int .u8 0), (.int .u8 0), (.int .u8 0), (.int .u8 0), (.int .u8 0), (.int .u8 0), (.int .u8 0), (.int .u8 0), (.int .u8 0), (.int .u8 0), (.int .u8 0), (.int .u8 0), (.int .u8 0), (.int .u8 0), (.int .u8 0), (.int .u8 0), (.int .u8 0), (.int .u8 0), (.int .u8 0), (.int .u8 0), (.int .u8 0), (.int .u8 0), (.int .u8 0), (.int .u8 0), (.int .u8 0), (.int .u8 0), (.int .u8 0), (.int .u8 0), (.int .u8 0), (.int .u8 0), (.int .u8 0), (.int .u8 0), (.int .u8 0), (.int .u8 0), (.int .u8 0), (.int .u8 0), (.int .u8 0), (.int .u8 0), (.int .u8 0), (.int .u8 0), (.int .u8 0), (.int .u8 0), (.int .u8 0), (.int .u8 0), (.int .u8 0), (.int .u8 0), (.int .u8 0), (.int .u8 0), (.int .u8 0), (.int .u8 0), (.int .u8 0), (.int .u8 0), (.int .u8 0), (.int .u8 0)])) := by kernel_rfl
@[go_sem] theorem kd198 : kdOf Tryd.prog 198 = .other := by kernel_rfl
@[go_sem] theorem ty198 : tyOf Tryd.prog 198 = some (false, 1) := by kernel_rfl
@[go_sem] theorem in198 : infoOf Tryd.prog 198 = some (1, 0) := by kernel_rfl
@[go_sem] theorem ct198 : cutTy Tryd.prog 198 = false := by kernel_rfl
@[go_sem] theorem so198 : solid Tryd.prog 198 = true := by kernel_rfl
@[go_sem] theorem kd199 : kdOf Tryd.prog 199 = .fn := by kernel_rfl
@[go_sem] theorem ty199 : tyOf Tryd.prog 199 = some (false, 1) := by kernel_rfl
@[go_sem] theorem in199 : infoOf Tryd.prog 199 = some (1, 8) := by kernel_rfl
@[go_sem] theorem ct199 : cutTy Tryd.prog 199 = false := by kernel_rfl
@[go_sem] theorem so199 : solid Tryd.prog 199 = true := by kernel_rfl
@[go_sem] theorem ze199 : zeroV Tryd.prog 199 = some (.t .nilf) := by kernel_rfl
@[go_sem] theorem kd200 : kdOf Tryd.prog 200 = .struct := by kernel_rfl
@[go_sem] theorem ty200 : tyOf Tryd.prog 200 = some (true, 4) := by kernel_rfl
@[go_sem] theorem in200 : infoOf Tryd.prog 200 = some (4, 40) := by kernel_rfl
@[go_sem] theorem ct200 : cutTy Tryd.prog 200 = false := by kernel_rfl
@[go_sem] theorem so200 : solid Tryd.prog 200 = true := by kernel_rfl
@[go_sem] theorem ze200 : zeroV Tryd.prog 200 = some (.t (.agg [.nilp, .nilp, .nilp, (.str ByteArray.empty)])) := by kernel_rfl
@[go_sem] theorem fs200 : fldsOf Tryd.prog 200 = some [(0, 1), (1, 1), (2, 1), (3, 1)] := by kernel_rfl
@[go_sem] theorem ff200x0 : fld1 Tryd.prog 200 0 = some 0 := by kernel_rfl
@[go_sem] theorem fl200x0 : fldOf Tryd.prog 200 0 = some (0, 1) := by kernel_rfl
@[go_sem] theorem ff200x1 : fld1 Tryd.prog 200 1 = some 1 := by kernel_rfl
@[go_sem] theorem fl200x1 : fldOf Tryd.prog 200 1 = some (1, 1) := by kernel_rfl
@[go_sem] theorem ff200x2 : fld1 Tryd.prog 200 2 = some 2 := by kernel_rfl
@[go_sem] theorem fl200x2 : fldOf Tryd.prog 200 2 = some (2, 1) := by kernel_rfl
@[go_sem] theorem ff200x3 : fld1 Tryd.prog 200 3 = some 3 := by kernel_rfl
@[go_sem] theorem fl200x3 : fldOf Tryd.prog 200 3 = some (3, 1) := by kernel_rfl
@[go_sem] theorem kd201 : kdOf Tryd.prog 201 = .struct := by kernel_rfl
@[go_sem] theorem ty201 : tyOf Tryd.prog 201 = some (true, 4) := by kernel_rfl
@[go_sem] theorem in201 : infoOf Tryd.prog 201 = some (4, 40) := by kernel_rfl
@[go_sem] theorem ct201 : cutTy Tryd.prog 201 = false := by kernel_rfl
@[go_sem] theorem so201 : solid Tryd.prog 201 = true := by kernel_rfl
@[go_sem] theorem ze201 : zeroV Tryd.prog 201 = some (.t (.agg [.nilp, .nilp, .nilp, (.str ByteArray.empty)])) := by kernel_rfl
@[go_sem] theorem fs201 : fldsOf Tryd.prog 201 = some [(0, 1), (1, 1), (2, 1), (3, 1)] := by kernel_rfl
@[go_sem] theorem ff201x0 : fld1 Tryd.prog 201 0 = some 0 := by kernel_rfl
@[go_sem] theorem fl201x0 : fldOf Tryd.prog 201 0 = some (0, 1) := by kernel_rfl
@[go_sem] theorem ff201x1 : fld1 Tryd.prog 201 1 = some 1 := by kernel_rfl
@[go_sem] theorem fl201x1 : fldOf Tryd.prog 201 1 = some (1, 1) := by kernel_rfl
@[go_sem] theorem ff201x2 : fld1 Tryd.prog 201 2 = some 2 := by kernel_rfl
@[go_sem] theorem fl201x2 : fldOf Tryd.prog 201 2 = some (2, 1) := by kernel_rfl
@[go_sem] theorem ff201x3 : fld1 Tryd.prog 201 3 = some 3 := by kernel_rfl
@[go_sem] theorem fl201x3 : fldOf Tryd.prog 201 3 = some (3, 1) := by kernel_rfl
@[go_sem] theorem kd202 : kdOf Tryd.prog 202 = (.arr 0 16) := by kernel_rfl
@[go_sem] theorem ty202 : tyOf Tryd.prog 202 = some (true, 0) := by kernel_rfl
@[go_sem] theorem in202 : infoOf Tryd.prog 202 = some (0, 0) := by kernel_rfl
@[go_sem] theorem ct202 : cutTy Tryd.prog 202 = false := by kernel_rfl
@[go_sem] theorem so202 : solid Tryd.prog 202 = true := by kernel_rfl
@[go_sem] theorem ze202 : zeroV Tryd.prog 202 = some (.t (.agg [])) := by kernel_rfl
@[go_sem] theorem kd203 : kdOf Tryd.prog 203 = .struct := by kernel_rfl
@[go_sem] theorem ty203 : tyOf Tryd.prog 203 = some (true, 0) := by kernel_rfl
@[go_sem] theorem in203 : infoOf Tryd.prog 203 = some (0, 0) := by kernel_rfl
@[go_sem] theorem ct203 : cutTy Tryd.prog 203 = false := by kernel_rfl
@[go_sem] theorem so203 : solid Tryd.prog 203 = true := by kernel_rfl
@[go_sem] theorem ze203 : zeroV Tryd.prog 203 = some (.t (.agg [])) := by kernel_rfl
@[go_sem] theorem fs203 : fldsOf Tryd.prog 203 = some [(0, 0)] := by kernel_rfl
@[go_sem] theorem fl203x0 : fldOf Tryd.prog 203 0 = some (0, 0) := by kernel_rfl
@[go_sem] theorem kd204 : kdOf Tryd.prog 204 = .struct := by kernel_rfl
@[go_sem] theorem ty204 : tyOf Tryd.prog 204 = some (true, 0) := by kernel_rfl
@[go_sem] theorem in204 : infoOf Tryd.prog 204 = some (0, 0) := by kernel_rfl
@[go_sem] theorem ct204 : cutTy Tryd.prog 204 = false := by kernel_rfl
@[go_sem] theorem so204 : solid Tryd.prog 204 = true := by kernel_rfl
@[go_sem] theorem ze204 : zeroV Tryd.prog 204 = some (.t (.agg [])) := by kernel_rfl
@[go_sem] theorem fs204 : fldsOf Tryd.prog 204 = some [(0, 0)] := by kernel_rfl
@[go_sem] theorem fl204x0 : fldOf Tryd.prog 204 0 = some (0, 0) := by kernel_rfl
@[go_sem] theorem kd205 : kdOf Tryd.prog 205 = (.int .u8) := by kernel_rfl
@[go_sem] theorem ty205 : tyOf Tryd.prog 205 = some (false, 1) := by kernel_rfl
@[go_sem] theorem in205 : infoOf Tryd.prog 205 = some (1, 1) := by kernel_rfl
@[go_sem] theorem ct205 : cutTy Tryd.prog 205 = false := by kernel_rfl
@[go_sem] theorem so205 : solid Tryd.prog 205 = true := by kernel_rfl
@[go_sem] theorem ze205 : zeroV Tryd.prog 205 = some (.t (.int .u8 0)) := by kernel_rfl
@[go_sem] theorem kd206 : kdOf Tryd.prog 206 = (.int .u8) := by kernel_rfl
@[go_sem] theorem ty206 : tyOf Tryd.prog 206 = some (false, 1) := by kernel_rfl
@[go_sem] theorem in206 : infoOf Tryd.prog 206 = some (1, 1) := by kernel_rfl
@[go_sem] theorem ct206 : cutTy Tryd.prog 206 = false := by kernel_rfl
@[go_sem] theorem so206 : solid Tryd.prog 206 = true := by kernel_rfl
@[go_sem] theorem ze206 : zeroV Tryd.prog 206 = some (.t (.int .u8 0)) := by kernel_rfl
@[go_sem] theorem kd207 : kdOf Tryd.prog 207 = .fn := by kernel_rfl
@[go_sem] theorem ty207 : tyOf Tryd.prog 207 = some (false, 1) := by kernel_rfl
@[go_sem] theorem in207 : infoOf Tryd.prog 207 = some (1, 8) := by kernel_rfl
@[go_sem] theorem ct207 : cutTy Tryd.prog 207 = false := by kernel_rfl
@[go_sem] theorem so207 : solid Tryd.prog 207 = true := by kernel_rfl
@[go_sem] theorem ze207 : zeroV Tryd.prog 207 = some (.t .nilf) := by kernel_rfl
@[go_sem] theorem kd208 : kdOf Tryd.prog 208 = (.int .i32) := by kernel_rfl
@[go_sem] theorem ty208 : tyOf Tryd.prog 208 = some (false, 1) := by kernel_rfl
@[go_sem] theorem in208 : infoOf Tryd.prog 208 = some (1, 4) := by kernel_rfl
@[go_sem] theorem ct208 : cutTy Tryd.prog 208 = false := by kernel_rfl
@[go_sem] theorem so208 : solid Tryd.prog 208 = true := by kernel_rfl
@[go_sem] theorem ze208 : zeroV Tryd.prog 208 = some (.t (.int .i32 0)) := by kernel_rfl
@[go_sem] theorem kd209 : kdOf Tryd.prog 209 = (.int .i32) := by kernel_rfl
@[go_sem] theorem ty209 : tyOf Tryd.prog 209 = some (false, 1) := by kernel_rfl
@[go_sem] theorem in209 : infoOf Tryd.prog 209 = some (1, 4) := by kernel_rfl
@[go_sem] theorem ct209 : cutTy Tryd.prog 209 = false := by kernel_rfl
@[go_sem] theorem so209 : solid Tryd.prog 209 = true := by kernel_rfl
@[go_sem] theorem ze209 : zeroV Tryd.prog 209 = some (.t (.int .i32 0)) := by kernel_rfl
@[go_sem] theorem kd210 : kdOf Tryd.prog 210 = .struct := by kernel_rfl
@[go_sem] theorem ty210 : tyOf Tryd.prog 210 = some (true, 11) := by kernel_rfl
@[go_sem] theorem in210 : infoOf Tryd.prog 210 = some (11, 48) := by kernel_rfl
@[go_sem] theorem ct210 : cutTy Tryd.prog 210 = false := by kernel_rfl
@[go_sem] theorem so210 : solid Tryd.prog 210 = true := by kernel_rfl
@[go_sem] theorem ze210 : zeroV Tryd.prog 210 = some (.t (.agg [(.int .u64 0), (.int .u64 0), (.int .u32 0), (.int .u8 0), (.int .u8 0), (.int .u8 0), (.int .u8 0), .nilf, .nilp, (.int .i32 0), (.int .i32 0)])) := by kernel_rfl
@[go_sem] theorem fs210 : fldsOf Tryd.prog 210 = some [(0, 1), (1, 1), (2, 1), (3, 1), (4, 1), (5, 1), (6, 1), (7, 1), (8, 1), (9, 1), (10, 1)] := by kernel_rfl
@[go_sem] theorem ff210x0 : fld1 Tryd.prog 210 0 = some 0 := by kernel_rfl
@[go_sem] theorem fl210x0 : fldOf Tryd.prog 210 0 = some (0, 1) := by kernel_rfl
@[go_sem] theorem ff210x1 : fld1 Tryd.prog 210 1 = some 1 := by kernel_rfl
@[go_sem] theorem fl210x1 : fldOf Tryd.prog 210 1 = some (1, 1) := by kernel_rfl
@[go_sem] theorem ff210x2 : fld1 Tryd.prog 210 2 = some 2 := by kernel_rfl
@[go_sem] theorem fl210x2 : fldOf Tryd.prog 210 2 = some (2, 1) := by kernel_rfl
@[go_sem] theorem ff210x3 : fld1 Tryd.prog 210 3 = some 3 := by kernel_rfl
@[go_sem] theorem fl210x3 : fldOf Tryd.prog 210 3 = some (3, 1) := by kernel_rfl
@[go_sem] theorem ff210x4 : fld1 Tryd.prog 210 4 = some 4 := by kernel_rfl
@[go_sem] theorem fl210x4 : fldOf Tryd.prog 210 4 = some (4, 1) := by kernel_rfl
@[go_sem] theorem ff210x5 : fld1 Tryd.prog 210 5 = some 5 := by kernel_rfl
@[go_sem] theorem fl210x5 : fldOf Tryd.prog 210 5 = some (5, 1) := by kernel_rfl
@[go_sem] theorem ff210x6 : fld1 Tryd.prog 210 6 = some 6 := by kernel_rfl
@[go_sem] theorem fl210x6 : fldOf Tryd.prog 210 6 = some (6, 1) := by kernel_rfl
@[go_sem] theorem ff210x7 : fld1 Tryd.prog 210 7 = some 7 := by kernel_rfl
@[go_sem] theorem fl210x7 : fldOf Tryd.prog 210 7 = some (7, 1) := by kernel_rfl
@[go_sem] theorem ff210x8 : fld1 Tryd.prog 210 8 = some 8 := by kernel_rfl
@[go_sem] theorem fl210x8 : fldOf Tryd.prog 210 8 = some (8, 1) := by kernel_rfl
@[go_sem] theorem ff210x9 : fld1 Tryd.prog 210 9 = some 9 := by kernel_rfl
@[go_sem] theorem fl210x9 : fldOf Tryd.prog 210 9 = some (9, 1) := by kernel_rfl
@[go_sem] theorem ff210x10 : fld1 Tryd.prog 210 10 = some 10 := by kernel_rfl
@[go_sem] theorem fl210x10 : fldOf Tryd.prog 210 10 = some (10, 1) := by kernel_rfl
@[go_sem] theorem kd211 : kdOf Tryd.prog 211 = .struct := by kernel_rfl
@[go_sem] theorem ty211 : tyOf Tryd.prog 211 = some (true, 11) := by kernel_rfl
@[go_sem] theorem in211 : infoOf Tryd.prog 211 = some (11, 48) := by kernel_rfl
@[go_sem] theorem ct211 : cutTy Tryd.prog 211 = false := by kernel_rfl
@[go_sem] theorem so211 : solid Tryd.prog 211 = true := by kernel_rfl
@[go_sem] theorem ze211 : zeroV Tryd.prog 211 = some (.t (.agg [(.int .u64 0), (.int .u64 0), (.int .u32 0), (.int .u8 0), (.int .u8 0), (.int .u8 0), (.int .u8 0), .nilf, .nilp, (.int .i32 0), (.int .i32 0)])) := by kernel_rfl
@[go_sem] theorem fs211 : fldsOf Tryd.prog 211 = some [(0, 1), (1, 1), (2, 1), (3, 1), (4, 1), (5, 1), (6, 1), (7, 1), (8, 1), (9, 1), (10, 1)] := by kernel_rfl
@[go_sem] theorem ff211x0 : fld1 Tryd.prog 211 0 = some 0 := by kernel_rfl
@[go_sem] theorem fl211x0 : fldOf Tryd.prog 211 0 = some (0, 1) := by kernel_rfl
@[go_sem] theorem ff211x1 : fld1 Tryd.prog 211 1 = some 1 := by kernel_rfl
@[go_sem] theorem fl211x1 : fldOf Tryd.prog 211 1 = some (1, 1) := by kernel_rfl
@[go_sem] theorem ff211x2 : fld1 Tryd.prog 211 2 = some 2 := by kernel_rfl
@[go_sem] theorem fl211x2 : fldOf Tryd.prog 211 2 = some (2, 1) := by kernel_rfl
@[go_sem] theorem ff211x3 : fld1 Tryd.prog 211 3 = some 3 := by kernel_rfl
@[go_sem] theorem fl211x3 : fldOf Tryd.prog 211 3 = some (3, 1) := by kernel_rfl
@[go_sem] theorem ff211x4 : fld1 Tryd.prog 211 4 = some 4 := by kernel_rfl
@[go_sem] theorem fl211x4 : fldOf Tryd.prog 211 4 = some (4, 1) := by kernel_rfl
@[go_sem] theorem ff211x5 : fld1 Tryd.prog 211 5 = some 5 := by kernel_rfl
@[go_sem] theorem fl211x5 : fldOf Tryd.prog 211 5 = some (5, 1) := by kernel_rfl
@[go_sem] theorem ff211x6 : fld1 Tryd.prog 211 6 = some 6 := by kernel_rfl
@[go_sem] theorem fl211x6 : fldOf Tryd.prog 211 6 = some (6, 1) := by kernel_rfl
@[go_sem] theorem ff211x7 : fld1 Tryd.prog 211 7 = some 7 := by kernel_rfl
@[go_sem] theorem fl211x7 : fldOf Tryd.prog 211 7 = some (7, 1) := by kernel_rfl
@[go_sem] theorem ff211x8 : fld1 Tryd.prog 211 8 = some 8 := by kernel_rfl
@[go_sem] theorem fl211x8 : fldOf Tryd.prog 211 8 = some (8, 1) := by kernel_rfl
@[go_sem] theorem ff211x9 : fld1 Tryd.prog 211 9 = some 9 := by kernel_rfl
@[go_sem] theorem fl211x9 : fldOf Tryd.prog 211 9 = some (9, 1) := by kernel_rfl
@[go_sem] theorem ff211x10 : fld1 Tryd.prog 211 10 = some 10 := by kernel_rfl
@[go_sem] theorem fl211x10 : fldOf Tryd.prog 211 10 = some (10, 1) := by kernel_rfl
end Go.Sim
