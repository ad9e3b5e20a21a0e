/- A part of the proof of a law of module cupola: Types. It has no conditions of its own. -/
import Derived.Test.YtkfceeaokfdmfaaGreatDoorSimE
import Derived.Test.YtkfceeaokfdmfaaGreatDoorSimUu
import Derived.Test.YtkfceeaokfdmfaaGreatDoorOrcs
import Derived.Test.YtkfceeaokfdmfaaGreatDoorProg
import Derived.KernelRfl
set_option linter.all false
namespace Go.Sim
open Enc (enc)
open Go.Proofs
@[go_sem] theorem kd0 : kdOf Tryz.prog 0 = .other := by kernel_rfl
@[go_sem] theorem ty0 : tyOf Tryz.prog 0 = some (false, 1) := by kernel_rfl
@[go_sem] theorem in0 : infoOf Tryz.prog 0 = some (1, 0) := by kernel_rfl
@[go_sem] theorem ct0 : cutTy Tryz.prog 0 = false := by kernel_rfl
@[go_sem] theorem so0 : solid Tryz.prog 0 = true := by kernel_rfl
@[go_sem] theorem kd1 : kdOf Tryz.prog 1 = .fn := by kernel_rfl
@[go_sem] theorem ty1 : tyOf Tryz.prog 1 = some (false, 1) := by kernel_rfl
@[go_sem] theorem in1 : infoOf Tryz.prog 1 = some (1, 8) := by kernel_rfl
@[go_sem] theorem ct1 : cutTy Tryz.prog 1 = false := by kernel_rfl
@[go_sem] theorem so1 : solid Tryz.prog 1 = true := by kernel_rfl
@[go_sem] theorem ze1 : zeroV Tryz.prog 1 = some (.t .nilf) := by kernel_rfl
@[go_sem] theorem kd2 : kdOf Tryz.prog 2 = (.int .i64) := by kernel_rfl
@[go_sem] theorem ty2 : tyOf Tryz.prog 2 = some (false, 1) := by kernel_rfl
@[go_sem] theorem in2 : infoOf Tryz.prog 2 = some (1, 8) := by kernel_rfl
@[go_sem] theorem ct2 : cutTy Tryz.prog 2 = false := by kernel_rfl
@[go_sem] theorem so2 : solid Tryz.prog 2 = true := by kernel_rfl
@[go_sem] theorem ze2 : zeroV Tryz.prog 2 = some (.t (.int .i64 0)) := by kernel_rfl
@[go_sem] theorem kd3 : kdOf Tryz.prog 3 = (.int .i64) := by kernel_rfl
@[go_sem] theorem ty3 : tyOf Tryz.prog 3 = some (false, 1) := by kernel_rfl
@[go_sem] theorem in3 : infoOf Tryz.prog 3 = some (1, 8) := by kernel_rfl
@[go_sem] theorem ct3 : cutTy Tryz.prog 3 = false := by kernel_rfl
@[go_sem] theorem so3 : solid Tryz.prog 3 = true := by kernel_rfl
@[go_sem] theorem ze3 : zeroV Tryz.prog 3 = some (.t (.int .i64 0)) := by kernel_rfl
@[go_sem] theorem kd4 : kdOf Tryz.prog 4 = .bool := by kernel_rfl
@[go_sem] theorem ty4 : tyOf Tryz.prog 4 = some (false, 1) := by kernel_rfl
@[go_sem] theorem in4 : infoOf Tryz.prog 4 = some (1, 1) := by kernel_rfl
@[go_sem] theorem ct4 : cutTy Tryz.prog 4 = false := by kernel_rfl
@[go_sem] theorem so4 : solid Tryz.prog 4 = true := by kernel_rfl
@[go_sem] theorem ze4 : zeroV Tryz.prog 4 = some (.t (.bool false)) := by kernel_rfl
@[go_sem] theorem kd5 : kdOf Tryz.prog 5 = (.int .u8) := by kernel_rfl
@[go_sem] theorem ty5 : tyOf Tryz.prog 5 = some (false, 1) := by kernel_rfl
@[go_sem] theorem in5 : infoOf Tryz.prog 5 = some (1, 1) := by kernel_rfl
@[go_sem] theorem ct5 : cutTy Tryz.prog 5 = false := by kernel_rfl
@[go_sem] theorem so5 : solid Tryz.prog 5 = true := by kernel_rfl
@[go_sem] theorem ze5 : zeroV Tryz.prog 5 = some (.t (.int .u8 0)) := by kernel_rfl
@[go_sem] theorem kd6 : kdOf Tryz.prog 6 = (.int .u8) := by kernel_rfl
@[go_sem] theorem ty6 : tyOf Tryz.prog 6 = some (false, 1) := by kernel_rfl
@[go_sem] theorem in6 : infoOf Tryz.prog 6 = some (1, 1) := by kernel_rfl
@[go_sem] theorem ct6 : cutTy Tryz.prog 6 = false := by kernel_rfl
@[go_sem] theorem so6 : solid Tryz.prog 6 = true := by kernel_rfl
@[go_sem] theorem ze6 : zeroV Tryz.prog 6 = some (.t (.int .u8 0)) := by kernel_rfl
@[go_sem] theorem kd7 : kdOf Tryz.prog 7 = .struct := by kernel_rfl
@[go_sem] theorem ty7 : tyOf Tryz.prog 7 = some (true, 4) := by kernel_rfl
@[go_sem] theorem in7 : infoOf Tryz.prog 7 = some (4, 24) := by kernel_rfl
@[go_sem] theorem ct7 : cutTy Tryz.prog 7 = false := by kernel_rfl
@[go_sem] theorem so7 : solid Tryz.prog 7 = true := by kernel_rfl
@[go_sem] theorem ze7 : zeroV Tryz.prog 7 = some (.t (.agg [(.int .i64 0), (.int .i64 0), (.bool false), (.int .u8 0)])) := by kernel_rfl
@[go_sem] theorem fs7 : fldsOf Tryz.prog 7 = some [(0, 1), (1, 1), (2, 1), (3, 1)] := by kernel_rfl
@[go_sem] theorem ff7x0 : fld1 Tryz.prog 7 0 = some 0 := by kernel_rfl
@[go_sem] theorem fl7x0 : fldOf Tryz.prog 7 0 = some (0, 1) := by kernel_rfl
@[go_sem] theorem ff7x1 : fld1 Tryz.prog 7 1 = some 1 := by kernel_rfl
@[go_sem] theorem fl7x1 : fldOf Tryz.prog 7 1 = some (1, 1) := by kernel_rfl
@[go_sem] theorem ff7x2 : fld1 Tryz.prog 7 2 = some 2 := by kernel_rfl
@[go_sem] theorem fl7x2 : fldOf Tryz.prog 7 2 = some (2, 1) := by kernel_rfl
@[go_sem] theorem ff7x3 : fld1 Tryz.prog 7 3 = some 3 := by kernel_rfl
@[go_sem] theorem fl7x3 : fldOf Tryz.prog 7 3 = some (3, 1) := by kernel_rfl
@[go_sem] theorem kd8 : kdOf Tryz.prog 8 = .struct := by kernel_rfl
@[go_sem] theorem ty8 : tyOf Tryz.prog 8 = some (true, 4) := by kernel_rfl
@[go_sem] theorem in8 : infoOf Tryz.prog 8 = some (4, 24) := by kernel_rfl
@[go_sem] theorem ct8 : cutTy Tryz.prog 8 = false := by kernel_rfl
@[go_sem] theorem so8 : solid Tryz.prog 8 = true := by kernel_rfl
@[go_sem] theorem ze8 : zeroV Tryz.prog 8 = some (.t (.agg [(.int .i64 0), (.int .i64 0), (.bool false), (.int .u8 0)])) := by kernel_rfl
@[go_sem] theorem fs8 : fldsOf Tryz.prog 8 = some [(0, 1), (1, 1), (2, 1), (3, 1)] := by kernel_rfl
@[go_sem] theorem ff8x0 : fld1 Tryz.prog 8 0 = some 0 := by kernel_rfl
@[go_sem] theorem fl8x0 : fldOf Tryz.prog 8 0 = some (0, 1) := by kernel_rfl
@[go_sem] theorem ff8x1 : fld1 Tryz.prog 8 1 = some 1 := by kernel_rfl
@[go_sem] theorem fl8x1 : fldOf Tryz.prog 8 1 = some (1, 1) := by kernel_rfl
@[go_sem] theorem ff8x2 : fld1 Tryz.prog 8 2 = some 2 := by kernel_rfl
@[go_sem] theorem fl8x2 : fldOf Tryz.prog 8 2 = some (2, 1) := by kernel_rfl
@[go_sem] theorem ff8x3 : fld1 Tryz.prog 8 3 = some 3 := by kernel_rfl
@[go_sem] theorem fl8x3 : fldOf Tryz.prog 8 3 = some (3, 1) := by kernel_rfl
@[go_sem] theorem kd9 : kdOf Tryz.prog 9 = .str := by kernel_rfl
@[go_sem] theorem ty9 : tyOf Tryz.prog 9 = some (false, 1) := by kernel_rfl
@[go_sem] theorem in9 : infoOf Tryz.prog 9 = some (1, 16) := by kernel_rfl
@[go_sem] theorem ct9 : cutTy Tryz.prog 9 = false := by kernel_rfl
@[go_sem] theorem so9 : solid Tryz.prog 9 = true := by kernel_rfl
@[go_sem] theorem ze9 : zeroV Tryz.prog 9 = some (.t (.str ByteArray.empty)) := by kernel_rfl
@[go_sem] theorem kd10 : kdOf Tryz.prog 10 = .str := by kernel_rfl
@[go_sem] theorem ty10 : tyOf Tryz.prog 10 = some (false, 1) := by kernel_rfl
@[go_sem] theorem in10 : infoOf Tryz.prog 10 = some (1, 16) := by kernel_rfl
@[go_sem] theorem ct10 : cutTy Tryz.prog 10 = false := by kernel_rfl
@[go_sem] theorem so10 : solid Tryz.prog 10 = true := by kernel_rfl
@[go_sem] theorem ze10 : zeroV Tryz.prog 10 = some (.t (.str ByteArray.empty)) := by kernel_rfl
@[go_sem] theorem kd11 : kdOf Tryz.prog 11 = .str := by kernel_rfl
@[go_sem] theorem ty11 : tyOf Tryz.prog 11 = some (false, 1) := by kernel_rfl
@[go_sem] theorem in11 : infoOf Tryz.prog 11 = some (1, 16) := by kernel_rfl
@[go_sem] theorem ct11 : cutTy Tryz.prog 11 = false := by kernel_rfl
@[go_sem] theorem so11 : solid Tryz.prog 11 = true := by kernel_rfl
@[go_sem] theorem ze11 : zeroV Tryz.prog 11 = some (.t (.str ByteArray.empty)) := by kernel_rfl
@[go_sem] theorem kd12 : kdOf Tryz.prog 12 = (.int .u64) := by kernel_rfl
@[go_sem] theorem ty12 : tyOf Tryz.prog 12 = some (false, 1) := by kernel_rfl
@[go_sem] theorem in12 : infoOf Tryz.prog 12 = some (1, 8) := by kernel_rfl
@[go_sem] theorem ct12 : cutTy Tryz.prog 12 = false := by kernel_rfl
@[go_sem] theorem so12 : solid Tryz.prog 12 = true := by kernel_rfl
@[go_sem] theorem ze12 : zeroV Tryz.prog 12 = some (.t (.int .u64 0)) := by kernel_rfl
@[go_sem] theorem kd13 : kdOf Tryz.prog 13 = .struct := by kernel_rfl
@[go_sem] theorem ty13 : tyOf Tryz.prog 13 = some (true, 2) := by kernel_rfl
@[go_sem] theorem in13 : infoOf Tryz.prog 13 = some (2, 24) := by kernel_rfl
@[go_sem] theorem ct13 : cutTy Tryz.prog 13 = false := by kernel_rfl
@[go_sem] theorem so13 : solid Tryz.prog 13 = true := by kernel_rfl
@[go_sem] theorem ze13 : zeroV Tryz.prog 13 = some (.t (.agg [(.str ByteArray.empty), (.int .u64 0)])) := by kernel_rfl
@[go_sem] theorem fs13 : fldsOf Tryz.prog 13 = some [(0, 1), (1, 1)] := by kernel_rfl
@[go_sem] theorem ff13x0 : fld1 Tryz.prog 13 0 = some 0 := by kernel_rfl
@[go_sem] theorem fl13x0 : fldOf Tryz.prog 13 0 = some (0, 1) := by kernel_rfl
@[go_sem] theorem ff13x1 : fld1 Tryz.prog 13 1 = some 1 := by kernel_rfl
@[go_sem] theorem fl13x1 : fldOf Tryz.prog 13 1 = some (1, 1) := by kernel_rfl
@[go_sem] theorem kd14 : kdOf Tryz.prog 14 = .struct := by kernel_rfl
@[go_sem] theorem ty14 : tyOf Tryz.prog 14 = some (true, 2) := by kernel_rfl
@[go_sem] theorem in14 : infoOf Tryz.prog 14 = some (2, 24) := by kernel_rfl
@[go_sem] theorem ct14 : cutTy Tryz.prog 14 = false := by kernel_rfl
@[go_sem] theorem so14 : solid Tryz.prog 14 = true := by kernel_rfl
@[go_sem] theorem ze14 : zeroV Tryz.prog 14 = some (.t (.agg [(.str ByteArray.empty), (.int .u64 0)])) := by kernel_rfl
@[go_sem] theorem fs14 : fldsOf Tryz.prog 14 = some [(0, 1), (1, 1)] := by kernel_rfl
@[go_sem] theorem ff14x0 : fld1 Tryz.prog 14 0 = some 0 := by kernel_rfl
@[go_sem] theorem fl14x0 : fldOf Tryz.prog 14 0 = some (0, 1) := by kernel_rfl
@[go_sem] theorem ff14x1 : fld1 Tryz.prog 14 1 = some 1 := by kernel_rfl
@[go_sem] theorem fl14x1 : fldOf Tryz.prog 14 1 = some (1, 1) := by kernel_rfl
@[go_sem] theorem kd15 : kdOf Tryz.prog 15 = .ptr := by kernel_rfl
@[go_sem] theorem ty15 : tyOf Tryz.prog 15 = some (false, 1) := by kernel_rfl
@[go_sem] theorem in15 : infoOf Tryz.prog 15 = some (1, 8) := by kernel_rfl
@[go_sem] theorem ct15 : cutTy Tryz.prog 15 = false := by kernel_rfl
@[go_sem] theorem so15 : solid Tryz.prog 15 = true := by kernel_rfl
@[go_sem] theorem me15xError : methOf Tryz.prog 15 "Error" = some (105, none) := by kernel_rfl
@[go_sem] theorem me15xRuntimeError : methOf Tryz.prog 15 "RuntimeError" = some (106, none) := by kernel_rfl
@[go_sem] theorem ze15 : zeroV Tryz.prog 15 = some (.t .nilp) := by kernel_rfl
@[go_sem] theorem kd16 : kdOf Tryz.prog 16 = .ptr := by kernel_rfl
@[go_sem] theorem ty16 : tyOf Tryz.prog 16 = some (false, 1) := by kernel_rfl
@[go_sem] theorem in16 : infoOf Tryz.prog 16 = some (1, 8) := by kernel_rfl
@[go_sem] theorem ct16 : cutTy Tryz.prog 16 = false := by kernel_rfl
@[go_sem] theorem so16 : solid Tryz.prog 16 = true := by kernel_rfl
@[go_sem] theorem me16xError : methOf Tryz.prog 16 "Error" = some (107, none) := by kernel_rfl
@[go_sem] theorem me16xRuntimeError : methOf Tryz.prog 16 "RuntimeError" = some (108, none) := by kernel_rfl
@[go_sem] theorem ze16 : zeroV Tryz.prog 16 = some (.t .nilp) := by kernel_rfl
@[go_sem] theorem kd17 : kdOf Tryz.prog 17 = .ptr := by kernel_rfl
@[go_sem] theorem ty17 : tyOf Tryz.prog 17 = some (false, 1) := by kernel_rfl
@[go_sem] theorem in17 : infoOf Tryz.prog 17 = some (1, 8) := by kernel_rfl
@[go_sem] theorem ct17 : cutTy Tryz.prog 17 = false := by kernel_rfl
@[go_sem] theorem so17 : solid Tryz.prog 17 = true := by kernel_rfl
@[go_sem] theorem me17xAlign : methOf Tryz.prog 17 "Align" = some (109, none) := by kernel_rfl
@[go_sem] theorem me17xLen : methOf Tryz.prog 17 "Len" = some (110, none) := by kernel_rfl
@[go_sem] theorem ze17 : zeroV Tryz.prog 17 = some (.t .nilp) := by kernel_rfl
@[go_sem] theorem kd18 : kdOf Tryz.prog 18 = .struct := by kernel_rfl
@[go_sem] theorem ty18 : tyOf Tryz.prog 18 = some (true, 1) := by kernel_rfl
@[go_sem] theorem in18 : infoOf Tryz.prog 18 = some (1, 8) := by kernel_rfl
@[go_sem] theorem ct18 : cutTy Tryz.prog 18 = false := by kernel_rfl
@[go_sem] theorem so18 : solid Tryz.prog 18 = true := by kernel_rfl
@[go_sem] theorem ze18 : zeroV Tryz.prog 18 = some (.t (.agg [.nilp])) := by kernel_rfl
@[go_sem] theorem fs18 : fldsOf Tryz.prog 18 = some [(0, 1)] := by kernel_rfl
@[go_sem] theorem ff18x0 : fld1 Tryz.prog 18 0 = some 0 := by kernel_rfl
@[go_sem] theorem fl18x0 : fldOf Tryz.prog 18 0 = some (0, 1) := by kernel_rfl
@[go_sem] theorem kd19 : kdOf Tryz.prog 19 = .struct := by kernel_rfl
@[go_sem] theorem ty19 : tyOf Tryz.prog 19 = some (true, 1) := by kernel_rfl
@[go_sem] theorem in19 : infoOf Tryz.prog 19 = some (1, 8) := by kernel_rfl
@[go_sem] theorem ct19 : cutTy Tryz.prog 19 = false := by kernel_rfl
@[go_sem] theorem so19 : solid Tryz.prog 19 = true := by kernel_rfl
@[go_sem] theorem ze19 : zeroV Tryz.prog 19 = some (.t (.agg [.nilp])) := by kernel_rfl
@[go_sem] theorem fs19 : fldsOf Tryz.prog 19 = some [(0, 1)] := by kernel_rfl
@[go_sem] theorem ff19x0 : fld1 Tryz.prog 19 0 = some 0 := by kernel_rfl
@[go_sem] theorem fl19x0 : fldOf Tryz.prog 19 0 = some (0, 1) := by kernel_rfl
@[go_sem] theorem kd20 : kdOf Tryz.prog 20 = .other := by kernel_rfl
@[go_sem] theorem ty20 : tyOf Tryz.prog 20 = some (false, 1) := by kernel_rfl
@[go_sem] theorem in20 : infoOf Tryz.prog 20 = some (1, 16) := by kernel_rfl
@[go_sem] theorem ct20 : cutTy Tryz.prog 20 = false := by kernel_rfl
@[go_sem] theorem ze20 : zeroV Tryz.prog 20 = some (.t .nili) := by kernel_rfl
@[go_sem] theorem kd21 : kdOf Tryz.prog 21 = (.int .i32) := by kernel_rfl
@[go_sem] theorem ty21 : tyOf Tryz.prog 21 = some (false, 1) := by kernel_rfl
@[go_sem] theorem in21 : infoOf Tryz.prog 21 = some (1, 4) := by kernel_rfl
@[go_sem] theorem ct21 : cutTy Tryz.prog 21 = false := by kernel_rfl
@[go_sem] theorem so21 : solid Tryz.prog 21 = true := by kernel_rfl
@[go_sem] theorem ze21 : zeroV Tryz.prog 21 = some (.t (.int .i32 0)) := by kernel_rfl
@[go_sem] theorem kd22 : kdOf Tryz.prog 22 = (.sl 43) := by kernel_rfl
@[go_sem] theorem ty22 : tyOf Tryz.prog 22 = some (false, 1) := by kernel_rfl
@[go_sem] theorem in22 : infoOf Tryz.prog 22 = some (1, 24) := by kernel_rfl
@[go_sem] theorem ct22 : cutTy Tryz.prog 22 = false := by kernel_rfl
@[go_sem] theorem so22 : solid Tryz.prog 22 = true := by kernel_rfl
@[go_sem] theorem ze22 : zeroV Tryz.prog 22 = some (.ex []) := by kernel_rfl
@[go_sem] theorem kd23 : kdOf Tryz.prog 23 = (.sl 4) := by kernel_rfl
@[go_sem] theorem ty23 : tyOf Tryz.prog 23 = some (false, 1) := by kernel_rfl
@[go_sem] theorem in23 : infoOf Tryz.prog 23 = some (1, 24) := by kernel_rfl
@[go_sem] theorem ct23 : cutTy Tryz.prog 23 = false := by kernel_rfl
@[go_sem] theorem so23 : solid Tryz.prog 23 = true := by kernel_rfl
@[go_sem] theorem ze23 : zeroV Tryz.prog 23 = some (.ex []) := by kernel_rfl
@[go_sem] theorem kd24 : kdOf Tryz.prog 24 = .fn := by kernel_rfl
@[go_sem] theorem ty24 : tyOf Tryz.prog 24 = some (false, 1) := by kernel_rfl
@[go_sem] theorem in24 : infoOf Tryz.prog 24 = some (1, 8) := by kernel_rfl
@[go_sem] theorem ct24 : cutTy Tryz.prog 24 = false := by kernel_rfl
@[go_sem] theorem so24 : solid Tryz.prog 24 = true := by kernel_rfl
@[go_sem] theorem ze24 : zeroV Tryz.prog 24 = some (.t .nilf) := by kernel_rfl
@[go_sem] theorem kd25 : kdOf Tryz.prog 25 = .fn := by kernel_rfl
@[go_sem] theorem ty25 : tyOf Tryz.prog 25 = some (false, 1) := by kernel_rfl
@[go_sem] theorem in25 : infoOf Tryz.prog 25 = some (1, 8) := by kernel_rfl
@[go_sem] theorem ct25 : cutTy Tryz.prog 25 = false := by kernel_rfl
@[go_sem] theorem so25 : solid Tryz.prog 25 = true := by kernel_rfl
@[go_sem] theorem ze25 : zeroV Tryz.prog 25 = some (.t .nilf) := by kernel_rfl
@[go_sem] theorem kd26 : kdOf Tryz.prog 26 = .ptr := by kernel_rfl
@[go_sem] theorem ty26 : tyOf Tryz.prog 26 = some (false, 1) := by kernel_rfl
@[go_sem] theorem in26 : infoOf Tryz.prog 26 = some (1, 8) := by kernel_rfl
@[go_sem] theorem ct26 : cutTy Tryz.prog 26 = false := by kernel_rfl
@[go_sem] theorem so26 : solid Tryz.prog 26 = true := by kernel_rfl
@[go_sem] theorem me26xHas : methOf Tryz.prog 26 "Has" = some (8, none) := by kernel_rfl
@[go_sem] theorem me26xLen : methOf Tryz.prog 26 "Len" = some (16, none) := by kernel_rfl
@[go_sem] theorem me26xPop : methOf Tryz.prog 26 "Pop" = some (13, none) := by kernel_rfl
@[go_sem] theorem me26xPush : methOf Tryz.prog 26 "Push" = some (11, none) := by kernel_rfl
@[go_sem] theorem me26xSeen : methOf Tryz.prog 26 "Seen" = some (17, none) := by kernel_rfl
@[go_sem] theorem ze26 : zeroV Tryz.prog 26 = some (.t .nilp) := by kernel_rfl
@[go_sem] theorem kd27 : kdOf Tryz.prog 27 = (.sl 41) := by kernel_rfl
@[go_sem] theorem ty27 : tyOf Tryz.prog 27 = some (false, 1) := by kernel_rfl
@[go_sem] theorem in27 : infoOf Tryz.prog 27 = some (1, 24) := by kernel_rfl
@[go_sem] theorem ct27 : cutTy Tryz.prog 27 = false := by kernel_rfl
@[go_sem] theorem so27 : solid Tryz.prog 27 = true := by kernel_rfl
@[go_sem] theorem ze27 : zeroV Tryz.prog 27 = some (.ex []) := by kernel_rfl
@[go_sem] theorem kd28 : kdOf Tryz.prog 28 = (.sl 41) := by kernel_rfl
@[go_sem] theorem ty28 : tyOf Tryz.prog 28 = some (false, 1) := by kernel_rfl
@[go_sem] theorem in28 : infoOf Tryz.prog 28 = some (1, 24) := by kernel_rfl
@[go_sem] theorem ct28 : cutTy Tryz.prog 28 = true := by kernel_rfl
@[go_sem] theorem so28 : solid Tryz.prog 28 = true := by kernel_rfl
@[go_sem] theorem ze28 : zeroV Tryz.prog 28 = some (.ex []) := by kernel_rfl
@[go_sem] theorem kd29 : kdOf Tryz.prog 29 = .map := by kernel_rfl
@[go_sem] theorem ty29 : tyOf Tryz.prog 29 = some (false, 1) := by kernel_rfl
@[go_sem] theorem in29 : infoOf Tryz.prog 29 = some (1, 8) := by kernel_rfl
@[go_sem] theorem mt29 : mapSB Tryz.prog 29 = true := by kernel_rfl
@[go_sem] theorem ct29 : cutTy Tryz.prog 29 = false := by kernel_rfl
@[go_sem] theorem so29 : solid Tryz.prog 29 = true := by kernel_rfl
@[go_sem] theorem ze29 : zeroV Tryz.prog 29 = some (.t .nilm) := by kernel_rfl
@[go_sem] theorem kd30 : kdOf Tryz.prog 30 = .map := by kernel_rfl
@[go_sem] theorem ty30 : tyOf Tryz.prog 30 = some (false, 1) := by kernel_rfl
@[go_sem] theorem in30 : infoOf Tryz.prog 30 = some (1, 8) := by kernel_rfl
@[go_sem] theorem mt30 : mapSB Tryz.prog 30 = true := by kernel_rfl
@[go_sem] theorem ct30 : cutTy Tryz.prog 30 = false := by kernel_rfl
@[go_sem] theorem so30 : solid Tryz.prog 30 = true := by kernel_rfl
@[go_sem] theorem ze30 : zeroV Tryz.prog 30 = some (.t .nilm) := by kernel_rfl
@[go_sem] theorem kd31 : kdOf Tryz.prog 31 = .struct := by kernel_rfl
@[go_sem] theorem ty31 : tyOf Tryz.prog 31 = some (true, 2) := by kernel_rfl
@[go_sem] theorem in31 : infoOf Tryz.prog 31 = some (2, 32) := by kernel_rfl
@[go_sem] theorem ct31 : cutTy Tryz.prog 31 = false := by kernel_rfl
@[go_sem] theorem so31 : solid Tryz.prog 31 = true := by kernel_rfl
@[go_sem] theorem ze31 : zeroV Tryz.prog 31 = some (.agg [.ex [], .t .nilm]) := by kernel_rfl
@[go_sem] theorem fs31 : fldsOf Tryz.prog 31 = some [(0, 1), (1, 1)] := by kernel_rfl
@[go_sem] theorem ff31x0 : fld1 Tryz.prog 31 0 = some 0 := by kernel_rfl
@[go_sem] theorem fl31x0 : fldOf Tryz.prog 31 0 = some (0, 1) := by kernel_rfl
@[go_sem] theorem ff31x1 : fld1 Tryz.prog 31 1 = some 1 := by kernel_rfl
@[go_sem] theorem fl31x1 : fldOf Tryz.prog 31 1 = some (1, 1) := by kernel_rfl
@[go_sem] theorem kd32 : kdOf Tryz.prog 32 = .struct := by kernel_rfl
@[go_sem] theorem ty32 : tyOf Tryz.prog 32 = some (true, 2) := by kernel_rfl
@[go_sem] theorem in32 : infoOf Tryz.prog 32 = some (2, 32) := by kernel_rfl
@[go_sem] theorem ct32 : cutTy Tryz.prog 32 = false := by kernel_rfl
@[go_sem] theorem so32 : solid Tryz.prog 32 = true := by kernel_rfl
@[go_sem] theorem ze32 : zeroV Tryz.prog 32 = some (.agg [.ex [], .t .nilm]) := by kernel_rfl
@[go_sem] theorem fs32 : fldsOf Tryz.prog 32 = some [(0, 1), (1, 1)] := by kernel_rfl
@[go_sem] theorem ff32x0 : fld1 Tryz.prog 32 0 = some 0 := by kernel_rfl
@[go_sem] theorem fl32x0 : fldOf Tryz.prog 32 0 = some (0, 1) := by kernel_rfl
@[go_sem] theorem ff32x1 : fld1 Tryz.prog 32 1 = some 1 := by kernel_rfl
@[go_sem] theorem fl32x1 : fldOf Tryz.prog 32 1 = some (1, 1) := by kernel_rfl
@[go_sem] theorem kd33 : kdOf Tryz.prog 33 = (.sl 9) := by kernel_rfl
@[go_sem] theorem ty33 : tyOf Tryz.prog 33 = some (false, 1) := by kernel_rfl
@[go_sem] theorem in33 : infoOf Tryz.prog 33 = some (1, 24) := by kernel_rfl
@[go_sem] theorem ct33 : cutTy Tryz.prog 33 = false := by kernel_rfl
@[go_sem] theorem so33 : solid Tryz.prog 33 = true := by kernel_rfl
@[go_sem] theorem ze33 : zeroV Tryz.prog 33 = some (.ex []) := by kernel_rfl
@[go_sem] theorem kd34 : kdOf Tryz.prog 34 = .struct := by kernel_rfl
@[go_sem] theorem ty34 : tyOf Tryz.prog 34 = some (true, 2) := by kernel_rfl
@[go_sem] theorem in34 : infoOf Tryz.prog 34 = some (2, 48) := by kernel_rfl
@[go_sem] theorem ct34 : cutTy Tryz.prog 34 = false := by kernel_rfl
@[go_sem] theorem so34 : solid Tryz.prog 34 = true := by kernel_rfl
@[go_sem] theorem ze34 : zeroV Tryz.prog 34 = some (.agg [.ex [], .ex []]) := by kernel_rfl
@[go_sem] theorem fs34 : fldsOf Tryz.prog 34 = some [(0, 1), (1, 1)] := by kernel_rfl
@[go_sem] theorem ff34x0 : fld1 Tryz.prog 34 0 = some 0 := by kernel_rfl
@[go_sem] theorem fl34x0 : fldOf Tryz.prog 34 0 = some (0, 1) := by kernel_rfl
@[go_sem] theorem ff34x1 : fld1 Tryz.prog 34 1 = some 1 := by kernel_rfl
@[go_sem] theorem fl34x1 : fldOf Tryz.prog 34 1 = some (1, 1) := by kernel_rfl
@[go_sem] theorem kd35 : kdOf Tryz.prog 35 = .struct := by kernel_rfl
@[go_sem] theorem ty35 : tyOf Tryz.prog 35 = some (true, 2) := by kernel_rfl
@[go_sem] theorem in35 : infoOf Tryz.prog 35 = some (2, 48) := by kernel_rfl
@[go_sem] theorem ct35 : cutTy Tryz.prog 35 = false := by kernel_rfl
@[go_sem] theorem so35 : solid Tryz.prog 35 = true := by kernel_rfl
@[go_sem] theorem ze35 : zeroV Tryz.prog 35 = some (.agg [.ex [], .ex []]) := by kernel_rfl
@[go_sem] theorem fs35 : fldsOf Tryz.prog 35 = some [(0, 1), (1, 1)] := by kernel_rfl
@[go_sem] theorem ff35x0 : fld1 Tryz.prog 35 0 = some 0 := by kernel_rfl
@[go_sem] theorem fl35x0 : fldOf Tryz.prog 35 0 = some (0, 1) := by kernel_rfl
@[go_sem] theorem ff35x1 : fld1 Tryz.prog 35 1 = some 1 := by kernel_rfl
@[go_sem] theorem fl35x1 : fldOf Tryz.prog 35 1 = some (1, 1) := by kernel_rfl
@[go_sem] theorem kd36 : kdOf Tryz.prog 36 = .fn := by kernel_rfl
@[go_sem] theorem ty36 : tyOf Tryz.prog 36 = some (false, 1) := by kernel_rfl
@[go_sem] theorem in36 : infoOf Tryz.prog 36 = some (1, 8) := by kernel_rfl
@[go_sem] theorem ct36 : cutTy Tryz.prog 36 = false := by kernel_rfl
@[go_sem] theorem so36 : solid Tryz.prog 36 = true := by kernel_rfl
@[go_sem] theorem ze36 : zeroV Tryz.prog 36 = some (.t .nilf) := by kernel_rfl
@[go_sem] theorem kd37 : kdOf Tryz.prog 37 = (.int .u32) := by kernel_rfl
@[go_sem] theorem ty37 : tyOf Tryz.prog 37 = some (false, 1) := by kernel_rfl
@[go_sem] theorem in37 : infoOf Tryz.prog 37 = some (1, 4) := by kernel_rfl
@[go_sem] theorem ct37 : cutTy Tryz.prog 37 = false := by kernel_rfl
@[go_sem] theorem so37 : solid Tryz.prog 37 = true := by kernel_rfl
@[go_sem] theorem ze37 : zeroV Tryz.prog 37 = some (.t (.int .u32 0)) := by kernel_rfl
@[go_sem] theorem kd38 : kdOf Tryz.prog 38 = (.sl 3) := by kernel_rfl
@[go_sem] theorem ty38 : tyOf Tryz.prog 38 = some (false, 1) := by kernel_rfl
@[go_sem] theorem in38 : infoOf Tryz.prog 38 = some (1, 24) := by kernel_rfl
@[go_sem] theorem ct38 : cutTy Tryz.prog 38 = false := by kernel_rfl
@[go_sem] theorem so38 : solid Tryz.prog 38 = true := by kernel_rfl
@[go_sem] theorem ze38 : zeroV Tryz.prog 38 = some (.ex []) := by kernel_rfl
@[go_sem] theorem kd39 : kdOf Tryz.prog 39 = (.sl 38) := by kernel_rfl
@[go_sem] theorem ty39 : tyOf Tryz.prog 39 = some (false, 1) := by kernel_rfl
@[go_sem] theorem in39 : infoOf Tryz.prog 39 = some (1, 24) := by kernel_rfl
@[go_sem] theorem ct39 : cutTy Tryz.prog 39 = false := by kernel_rfl
@[go_sem] theorem so39 : solid Tryz.prog 39 = true := by kernel_rfl
@[go_sem] theorem ze39 : zeroV Tryz.prog 39 = some (.ex []) := by kernel_rfl
@[go_sem] theorem kd40 : kdOf Tryz.prog 40 = .struct := by kernel_rfl
@[go_sem] theorem ty40 : tyOf Tryz.prog 40 = some (true, 3) := by kernel_rfl
@[go_sem] theorem in40 : infoOf Tryz.prog 40 = some (3, 56) := by kernel_rfl
@[go_sem] theorem ct40 : cutTy Tryz.prog 40 = false := by kernel_rfl
@[go_sem] theorem so40 : solid Tryz.prog 40 = true := by kernel_rfl
@[go_sem] theorem ze40 : zeroV Tryz.prog 40 = some (.agg [.t (.int .u32 0), .ex [], .ex []]) := by kernel_rfl
@[go_sem] theorem fs40 : fldsOf Tryz.prog 40 = some [(0, 1), (1, 1), (2, 1)] := by kernel_rfl
@[go_sem] theorem ff40x0 : fld1 Tryz.prog 40 0 = some 0 := by kernel_rfl
@[go_sem] theorem fl40x0 : fldOf Tryz.prog 40 0 = some (0, 1) := by kernel_rfl
@[go_sem] theorem ff40x1 : fld1 Tryz.prog 40 1 = some 1 := by kernel_rfl
@[go_sem] theorem fl40x1 : fldOf Tryz.prog 40 1 = some (1, 1) := by kernel_rfl
@[go_sem] theorem ff40x2 : fld1 Tryz.prog 40 2 = some 2 := by kernel_rfl
@[go_sem] theorem fl40x2 : fldOf Tryz.prog 40 2 = some (2, 1) := by kernel_rfl
@[go_sem] theorem kd41 : kdOf Tryz.prog 41 = .struct := by kernel_rfl
@[go_sem] theorem ty41 : tyOf Tryz.prog 41 = some (true, 3) := by kernel_rfl
@[go_sem] theorem in41 : infoOf Tryz.prog 41 = some (3, 56) := by kernel_rfl
@[go_sem] theorem ct41 : cutTy Tryz.prog 41 = false := by kernel_rfl
@[go_sem] theorem so41 : solid Tryz.prog 41 = true := by kernel_rfl
@[go_sem] theorem ze41 : zeroV Tryz.prog 41 = some (.agg [.t (.int .u32 0), .ex [], .ex []]) := by kernel_rfl
@[go_sem] theorem fs41 : fldsOf Tryz.prog 41 = some [(0, 1), (1, 1), (2, 1)] := by kernel_rfl
@[go_sem] theorem ff41x0 : fld1 Tryz.prog 41 0 = some 0 := by kernel_rfl
@[go_sem] theorem fl41x0 : fldOf Tryz.prog 41 0 = some (0, 1) := by kernel_rfl
@[go_sem] theorem ff41x1 : fld1 Tryz.prog 41 1 = some 1 := by kernel_rfl
@[go_sem] theorem fl41x1 : fldOf Tryz.prog 41 1 = some (1, 1) := by kernel_rfl
@[go_sem] theorem ff41x2 : fld1 Tryz.prog 41 2 = some 2 := by kernel_rfl
@[go_sem] theorem fl41x2 : fldOf Tryz.prog 41 2 = some (2, 1) := by kernel_rfl
@[go_sem] theorem kd42 : kdOf Tryz.prog 42 = .fn := by kernel_rfl
@[go_sem] theorem ty42 : tyOf Tryz.prog 42 = some (false, 1) := by kernel_rfl
@[go_sem] theorem in42 : infoOf Tryz.prog 42 = some (1, 8) := by kernel_rfl
@[go_sem] theorem ct42 : cutTy Tryz.prog 42 = false := by kernel_rfl
@[go_sem] theorem so42 : solid Tryz.prog 42 = true := by kernel_rfl
@[go_sem] theorem ze42 : zeroV Tryz.prog 42 = some (.t .nilf) := by kernel_rfl
@[go_sem] theorem kd43 : kdOf Tryz.prog 43 = .struct := by kernel_rfl
@[go_sem] theorem ty43 : tyOf Tryz.prog 43 = some (true, 3) := by kernel_rfl
@[go_sem] theorem in43 : infoOf Tryz.prog 43 = some (3, 56) := by kernel_rfl
@[go_sem] theorem ct43 : cutTy Tryz.prog 43 = false := by kernel_rfl
@[go_sem] theorem so43 : solid Tryz.prog 43 = true := by kernel_rfl
@[go_sem] theorem ze43 : zeroV Tryz.prog 43 = some (.agg [.t (.int .u32 0), .ex [], .ex []]) := by kernel_rfl
@[go_sem] theorem fs43 : fldsOf Tryz.prog 43 = some [(0, 1), (1, 1), (2, 1)] := by kernel_rfl
@[go_sem] theorem ff43x0 : fld1 Tryz.prog 43 0 = some 0 := by kernel_rfl
@[go_sem] theorem fl43x0 : fldOf Tryz.prog 43 0 = some (0, 1) := by kernel_rfl
@[go_sem] theorem ff43x1 : fld1 Tryz.prog 43 1 = some 1 := by kernel_rfl
@[go_sem] theorem fl43x1 : fldOf Tryz.prog 43 1 = some (1, 1) := by kernel_rfl
@[go_sem] theorem ff43x2 : fld1 Tryz.prog 43 2 = some 2 := by kernel_rfl
@[go_sem] theorem fl43x2 : fldOf Tryz.prog 43 2 = some (2, 1) := by kernel_rfl
@[go_sem] theorem kd44 : kdOf Tryz.prog 44 = .fn := by kernel_rfl
@[go_sem] theorem ty44 : tyOf Tryz.prog 44 = some (false, 1) := by kernel_rfl
@[go_sem] theorem in44 : infoOf Tryz.prog 44 = some (1, 8) := by kernel_rfl
@[go_sem] theorem ct44 : cutTy Tryz.prog 44 = false := by kernel_rfl
@[go_sem] theorem so44 : solid Tryz.prog 44 = true := by kernel_rfl
@[go_sem] theorem ze44 : zeroV Tryz.prog 44 = some (.t .nilf) := by kernel_rfl
@[go_sem] theorem kd45 : kdOf Tryz.prog 45 = .other := by kernel_rfl
@[go_sem] theorem ty45 : tyOf Tryz.prog 45 = some (false, 1) := by kernel_rfl
@[go_sem] theorem in45 : infoOf Tryz.prog 45 = some (1, 0) := by kernel_rfl
@[go_sem] theorem ct45 : cutTy Tryz.prog 45 = false := by kernel_rfl
@[go_sem] theorem so45 : solid Tryz.prog 45 = true := by kernel_rfl
@[go_sem] theorem kd46 : kdOf Tryz.prog 46 = .fn := by kernel_rfl
@[go_sem] theorem ty46 : tyOf Tryz.prog 46 = some (false, 1) := by kernel_rfl
@[go_sem] theorem in46 : infoOf Tryz.prog 46 = some (1, 8) := by kernel_rfl
@[go_sem] theorem ct46 : cutTy Tryz.prog 46 = false := by kernel_rfl
@[go_sem] theorem so46 : solid Tryz.prog 46 = true := by kernel_rfl
@[go_sem] theorem ze46 : zeroV Tryz.prog 46 = some (.t .nilf) := by kernel_rfl
@[go_sem] theorem kd47 : kdOf Tryz.prog 47 = .other := by kernel_rfl
@[go_sem] theorem ty47 : tyOf Tryz.prog 47 = some (false, 1) := by kernel_rfl
@[go_sem] theorem in47 : infoOf Tryz.prog 47 = some (1, 0) := by kernel_rfl
@[go_sem] theorem ct47 : cutTy Tryz.prog 47 = false := by kernel_rfl
@[go_sem] theorem so47 : solid Tryz.prog 47 = true := by kernel_rfl
@[go_sem] theorem kd48 : kdOf Tryz.prog 48 = .fn := by kernel_rfl
@[go_sem] theorem ty48 : tyOf Tryz.prog 48 = some (false, 1) := by kernel_rfl
@[go_sem] theorem in48 : infoOf Tryz.prog 48 = some (1, 8) := by kernel_rfl
@[go_sem] theorem ct48 : cutTy Tryz.prog 48 = false := by kernel_rfl
@[go_sem] theorem so48 : solid Tryz.prog 48 = true := by kernel_rfl
@[go_sem] theorem ze48 : zeroV Tryz.prog 48 = some (.t .nilf) := by kernel_rfl
@[go_sem] theorem kd49 : kdOf Tryz.prog 49 = .fn := by kernel_rfl
@[go_sem] theorem ty49 : tyOf Tryz.prog 49 = some (false, 1) := by kernel_rfl
@[go_sem] theorem in49 : infoOf Tryz.prog 49 = some (1, 8) := by kernel_rfl
@[go_sem] theorem ct49 : cutTy Tryz.prog 49 = false := by kernel_rfl
@[go_sem] theorem so49 : solid Tryz.prog 49 = true := by kernel_rfl
@[go_sem] theorem ze49 : zeroV Tryz.prog 49 = some (.t .nilf) := by kernel_rfl
@[go_sem] theorem kd50 : kdOf Tryz.prog 50 = .fn := by kernel_rfl
@[go_sem] theorem ty50 : tyOf Tryz.prog 50 = some (false, 1) := by kernel_rfl
@[go_sem] theorem in50 : infoOf Tryz.prog 50 = some (1, 8) := by kernel_rfl
@[go_sem] theorem ct50 : cutTy Tryz.prog 50 = false := by kernel_rfl
@[go_sem] theorem so50 : solid Tryz.prog 50 = true := by kernel_rfl
@[go_sem] theorem ze50 : zeroV Tryz.prog 50 = some (.t .nilf) := by kernel_rfl
@[go_sem] theorem kd51 : kdOf Tryz.prog 51 = .fn := by kernel_rfl
@[go_sem] theorem ty51 : tyOf Tryz.prog 51 = some (false, 1) := by kernel_rfl
@[go_sem] theorem in51 : infoOf Tryz.prog 51 = some (1, 8) := by kernel_rfl
@[go_sem] theorem ct51 : cutTy Tryz.prog 51 = false := by kernel_rfl
@[go_sem] theorem so51 : solid Tryz.prog 51 = true := by kernel_rfl
@[go_sem] theorem ze51 : zeroV Tryz.prog 51 = some (.t .nilf) := by kernel_rfl
@[go_sem] theorem kd52 : kdOf Tryz.prog 52 = .fn := by kernel_rfl
@[go_sem] theorem ty52 : tyOf Tryz.prog 52 = some (false, 1) := by kernel_rfl
@[go_sem] theorem in52 : infoOf Tryz.prog 52 = some (1, 8) := by kernel_rfl
@[go_sem] theorem ct52 : cutTy Tryz.prog 52 = false := by kernel_rfl
@[go_sem] theorem so52 : solid Tryz.prog 52 = true := by kernel_rfl
@[go_sem] theorem ze52 : zeroV Tryz.prog 52 = some (.t .nilf) := by kernel_rfl
@[go_sem] theorem kd53 : kdOf Tryz.prog 53 = .fn := by kernel_rfl
@[go_sem] theorem ty53 : tyOf Tryz.prog 53 = some (false, 1) := by kernel_rfl
@[go_sem] theorem in53 : infoOf Tryz.prog 53 = some (1, 8) := by kernel_rfl
@[go_sem] theorem ct53 : cutTy Tryz.prog 53 = false := by kernel_rfl
@[go_sem] theorem so53 : solid Tryz.prog 53 = true := by kernel_rfl
@[go_sem] theorem ze53 : zeroV Tryz.prog 53 = some (.t .nilf) := by kernel_rfl
@[go_sem] theorem kd54 : kdOf Tryz.prog 54 = .fn := by kernel_rfl
@[go_sem] theorem ty54 : tyOf Tryz.prog 54 = some (false, 1) := by kernel_rfl
@[go_sem] theorem in54 : infoOf Tryz.prog 54 = some (1, 8) := by kernel_rfl
@[go_sem] theorem ct54 : cutTy Tryz.prog 54 = false := by kernel_rfl
@[go_sem] theorem so54 : solid Tryz.prog 54 = true := by kernel_rfl
@[go_sem] theorem ze54 : zeroV Tryz.prog 54 = some (.t .nilf) := by kernel_rfl
@[go_sem] theorem kd55 : kdOf Tryz.prog 55 = .fn := by kernel_rfl
@[go_sem] theorem ty55 : tyOf Tryz.prog 55 = some (false, 1) := by kernel_rfl
@[go_sem] theorem in55 : infoOf Tryz.prog 55 = some (1, 8) := by kernel_rfl
@[go_sem] theorem ct55 : cutTy Tryz.prog 55 = false := by kernel_rfl
@[go_sem] theorem so55 : solid Tryz.prog 55 = true := by kernel_rfl
@[go_sem] theorem ze55 : zeroV Tryz.prog 55 = some (.t .nilf) := by kernel_rfl
@[go_sem] theorem kd56 : kdOf Tryz.prog 56 = .fn := by kernel_rfl
@[go_sem] theorem ty56 : tyOf Tryz.prog 56 = some (false, 1) := by kernel_rfl
@[go_sem] theorem in56 : infoOf Tryz.prog 56 = some (1, 8) := by kernel_rfl
@[go_sem] theorem ct56 : cutTy Tryz.prog 56 = false := by kernel_rfl
@[go_sem] theorem so56 : solid Tryz.prog 56 = true := by kernel_rfl
@[go_sem] theorem ze56 : zeroV Tryz.prog 56 = some (.t .nilf) := by kernel_rfl
@[go_sem] theorem kd57 : kdOf Tryz.prog 57 = .fn := by kernel_rfl
@[go_sem] theorem ty57 : tyOf Tryz.prog 57 = some (false, 1) := by kernel_rfl
@[go_sem] theorem in57 : infoOf Tryz.prog 57 = some (1, 8) := by kernel_rfl
@[go_sem] theorem ct57 : cutTy Tryz.prog 57 = false := by kernel_rfl
@[go_sem] theorem so57 : solid Tryz.prog 57 = true := by kernel_rfl
@[go_sem] theorem ze57 : zeroV Tryz.prog 57 = some (.t .nilf) := by kernel_rfl
@[go_sem] theorem kd58 : kdOf Tryz.prog 58 = .fn := by kernel_rfl
@[go_sem] theorem ty58 : tyOf Tryz.prog 58 = some (false, 1) := by kernel_rfl
@[go_sem] theorem in58 : infoOf Tryz.prog 58 = some (1, 8) := by kernel_rfl
@[go_sem] theorem ct58 : cutTy Tryz.prog 58 = false := by kernel_rfl
@[go_sem] theorem so58 : solid Tryz.prog 58 = true := by kernel_rfl
@[go_sem] theorem ze58 : zeroV Tryz.prog 58 = some (.t .nilf) := by kernel_rfl
@[go_sem] theorem kd59 : kdOf Tryz.prog 59 = .fn := by kernel_rfl
@[go_sem] theorem ty59 : tyOf Tryz.prog 59 = some (false, 1) := by kernel_rfl
@[go_sem] theorem in59 : infoOf Tryz.prog 59 = some (1, 8) := by kernel_rfl
@[go_sem] theorem ct59 : cutTy Tryz.prog 59 = false := by kernel_rfl
@[go_sem] theorem so59 : solid Tryz.prog 59 = true := by kernel_rfl
@[go_sem] theorem ze59 : zeroV Tryz.prog 59 = some (.t .nilf) := by kernel_rfl
@[go_sem] theorem kd60 : kdOf Tryz.prog 60 = .ptr := by kernel_rfl
@[go_sem] theorem ty60 : tyOf Tryz.prog 60 = some (false, 1) := by kernel_rfl
@[go_sem] theorem in60 : infoOf Tryz.prog 60 = some (1, 8) := by kernel_rfl
@[go_sem] theorem ct60 : cutTy Tryz.prog 60 = false := by kernel_rfl
@[go_sem] theorem so60 : solid Tryz.prog 60 = true := by kernel_rfl
@[go_sem] theorem me60xLen : methOf Tryz.prog 60 "Len" = some (113, some 28) := by kernel_rfl
@[go_sem] theorem me60xLess : methOf Tryz.prog 60 "Less" = some (114, some 28) := by kernel_rfl
@[go_sem] theorem me60xPop : methOf Tryz.prog 60 "Pop" = some (125, none) := by kernel_rfl
@[go_sem] theorem me60xPush : methOf Tryz.prog 60 "Push" = some (126, none) := by kernel_rfl
@[go_sem] theorem me60xSwap : methOf Tryz.prog 60 "Swap" = some (115, some 28) := by kernel_rfl
@[go_sem] theorem ze60 : zeroV Tryz.prog 60 = some (.t .nilp) := by kernel_rfl
@[go_sem] theorem kd61 : kdOf Tryz.prog 61 = .fn := by kernel_rfl
@[go_sem] theorem ty61 : tyOf Tryz.prog 61 = some (false, 1) := by kernel_rfl
@[go_sem] theorem in61 : infoOf Tryz.prog 61 = some (1, 8) := by kernel_rfl
@[go_sem] theorem ct61 : cutTy Tryz.prog 61 = false := by kernel_rfl
@[go_sem] theorem so61 : solid Tryz.prog 61 = true := by kernel_rfl
@[go_sem] theorem ze61 : zeroV Tryz.prog 61 = some (.t .nilf) := by kernel_rfl
@[go_sem] theorem kd62 : kdOf Tryz.prog 62 = .fn := by kernel_rfl
@[go_sem] theorem ty62 : tyOf Tryz.prog 62 = some (false, 1) := by kernel_rfl
@[go_sem] theorem in62 : infoOf Tryz.prog 62 = some (1, 8) := by kernel_rfl
@[go_sem] theorem ct62 : cutTy Tryz.prog 62 = false := by kernel_rfl
@[go_sem] theorem so62 : solid Tryz.prog 62 = true := by kernel_rfl
@[go_sem] theorem ze62 : zeroV Tryz.prog 62 = some (.t .nilf) := by kernel_rfl
@[go_sem] theorem kd63 : kdOf Tryz.prog 63 = .fn := by kernel_rfl
@[go_sem] theorem ty63 : tyOf Tryz.prog 63 = some (false, 1) := by kernel_rfl
@[go_sem] theorem in63 : infoOf Tryz.prog 63 = some (1, 8) := by kernel_rfl
@[go_sem] theorem ct63 : cutTy Tryz.prog 63 = false := by kernel_rfl
@[go_sem] theorem so63 : solid Tryz.prog 63 = true := by kernel_rfl
@[go_sem] theorem ze63 : zeroV Tryz.prog 63 = some (.t .nilf) := by kernel_rfl
@[go_sem] theorem kd64 : kdOf Tryz.prog 64 = (.int .u64) := by kernel_rfl
@[go_sem] theorem ty64 : tyOf Tryz.prog 64 = some (false, 1) := by kernel_rfl
@[go_sem] theorem in64 : infoOf Tryz.prog 64 = some (1, 8) := by kernel_rfl
@[go_sem] theorem ct64 : cutTy Tryz.prog 64 = false := by kernel_rfl
@[go_sem] theorem so64 : solid Tryz.prog 64 = true := by kernel_rfl
@[go_sem] theorem ze64 : zeroV Tryz.prog 64 = some (.t (.int .u64 0)) := by kernel_rfl
@[go_sem] theorem kd65 : kdOf Tryz.prog 65 = .fn := by kernel_rfl
@[go_sem] theorem ty65 : tyOf Tryz.prog 65 = some (false, 1) := by kernel_rfl
@[go_sem] theorem in65 : infoOf Tryz.prog 65 = some (1, 8) := by kernel_rfl
@[go_sem] theorem ct65 : cutTy Tryz.prog 65 = false := by kernel_rfl
@[go_sem] theorem so65 : solid Tryz.prog 65 = true := by kernel_rfl
@[go_sem] theorem ze65 : zeroV Tryz.prog 65 = some (.t .nilf) := by kernel_rfl
@[go_sem] theorem kd66 : kdOf Tryz.prog 66 = .fn := by kernel_rfl
@[go_sem] theorem ty66 : tyOf Tryz.prog 66 = some (false, 1) := by kernel_rfl
@[go_sem] theorem in66 : infoOf Tryz.prog 66 = some (1, 8) := by kernel_rfl
@[go_sem] theorem ct66 : cutTy Tryz.prog 66 = false := by kernel_rfl
@[go_sem] theorem so66 : solid Tryz.prog 66 = true := by kernel_rfl
@[go_sem] theorem ze66 : zeroV Tryz.prog 66 = some (.t .nilf) := by kernel_rfl
@[go_sem] theorem kd67 : kdOf Tryz.prog 67 = .fn := by kernel_rfl
@[go_sem] theorem ty67 : tyOf Tryz.prog 67 = some (false, 1) := by kernel_rfl
@[go_sem] theorem in67 : infoOf Tryz.prog 67 = some (1, 8) := by kernel_rfl
@[go_sem] theorem ct67 : cutTy Tryz.prog 67 = false := by kernel_rfl
@[go_sem] theorem so67 : solid Tryz.prog 67 = true := by kernel_rfl
@[go_sem] theorem ze67 : zeroV Tryz.prog 67 = some (.t .nilf) := by kernel_rfl
@[go_sem] theorem kd68 : kdOf Tryz.prog 68 = .other := by kernel_rfl
@[go_sem] theorem ty68 : tyOf Tryz.prog 68 = some (false, 1) := by kernel_rfl
@[go_sem] theorem in68 : infoOf Tryz.prog 68 = some (1, 16) := by kernel_rfl
@[go_sem] theorem ct68 : cutTy Tryz.prog 68 = false := by kernel_rfl
@[go_sem] theorem ze68 : zeroV Tryz.prog 68 = some (.t .nili) := by kernel_rfl
@[go_sem] theorem kd69 : kdOf Tryz.prog 69 = .other := by kernel_rfl
@[go_sem] theorem ty69 : tyOf Tryz.prog 69 = some (false, 1) := by kernel_rfl
@[go_sem] theorem in69 : infoOf Tryz.prog 69 = some (1, 16) := by kernel_rfl
@[go_sem] theorem ct69 : cutTy Tryz.prog 69 = false := by kernel_rfl
@[go_sem] theorem ze69 : zeroV Tryz.prog 69 = some (.t .nili) := by kernel_rfl
@[go_sem] theorem kd70 : kdOf Tryz.prog 70 = .other := by kernel_rfl
@[go_sem] theorem ty70 : tyOf Tryz.prog 70 = some (false, 1) := by kernel_rfl
@[go_sem] theorem in70 : infoOf Tryz.prog 70 = some (1, 0) := by kernel_rfl
@[go_sem] theorem ct70 : cutTy Tryz.prog 70 = false := by kernel_rfl
@[go_sem] theorem so70 : solid Tryz.prog 70 = true := by kernel_rfl
@[go_sem] theorem kd71 : kdOf Tryz.prog 71 = .fn := by kernel_rfl
@[go_sem] theorem ty71 : tyOf Tryz.prog 71 = some (false, 1) := by kernel_rfl
@[go_sem] theorem in71 : infoOf Tryz.prog 71 = some (1, 8) := by kernel_rfl
@[go_sem] theorem ct71 : cutTy Tryz.prog 71 = false := by kernel_rfl
@[go_sem] theorem so71 : solid Tryz.prog 71 = true := by kernel_rfl
@[go_sem] theorem ze71 : zeroV Tryz.prog 71 = some (.t .nilf) := by kernel_rfl
@[go_sem] theorem kd72 : kdOf Tryz.prog 72 = .fn := by kernel_rfl
@[go_sem] theorem ty72 : tyOf Tryz.prog 72 = some (false, 1) := by kernel_rfl
@[go_sem] theorem in72 : infoOf Tryz.prog 72 = some (1, 8) := by kernel_rfl
@[go_sem] theorem ct72 : cutTy Tryz.prog 72 = false := by kernel_rfl
@[go_sem] theorem so72 : solid Tryz.prog 72 = true := by kernel_rfl
@[go_sem] theorem ze72 : zeroV Tryz.prog 72 = some (.t .nilf) := by kernel_rfl
@[go_sem] theorem kd73 : kdOf Tryz.prog 73 = .fn := by kernel_rfl
@[go_sem] theorem ty73 : tyOf Tryz.prog 73 = some (false, 1) := by kernel_rfl
@[go_sem] theorem in73 : infoOf Tryz.prog 73 = some (1, 8) := by kernel_rfl
@[go_sem] theorem ct73 : cutTy Tryz.prog 73 = false := by kernel_rfl
@[go_sem] theorem so73 : solid Tryz.prog 73 = true := by kernel_rfl
@[go_sem] theorem ze73 : zeroV Tryz.prog 73 = some (.t .nilf) := by kernel_rfl
@[go_sem] theorem kd74 : kdOf Tryz.prog 74 = .fn := by kernel_rfl
@[go_sem] theorem ty74 : tyOf Tryz.prog 74 = some (false, 1) := by kernel_rfl
@[go_sem] theorem in74 : infoOf Tryz.prog 74 = some (1, 8) := by kernel_rfl
@[go_sem] theorem ct74 : cutTy Tryz.prog 74 = false := by kernel_rfl
@[go_sem] theorem so74 : solid Tryz.prog 74 = true := by kernel_rfl
@[go_sem] theorem ze74 : zeroV Tryz.prog 74 = some (.t .nilf) := by kernel_rfl
@[go_sem] theorem kd75 : kdOf Tryz.prog 75 = .fn := by kernel_rfl
@[go_sem] theorem ty75 : tyOf Tryz.prog 75 = some (false, 1) := by kernel_rfl
@[go_sem] theorem in75 : infoOf Tryz.prog 75 = some (1, 8) := by kernel_rfl
@[go_sem] theorem ct75 : cutTy Tryz.prog 75 = false := by kernel_rfl
@[go_sem] theorem so75 : solid Tryz.prog 75 = true := by kernel_rfl
@[go_sem] theorem ze75 : zeroV Tryz.prog 75 = some (.t .nilf) := by kernel_rfl
@[go_sem] theorem kd76 : kdOf Tryz.prog 76 = .fn := by kernel_rfl
@[go_sem] theorem ty76 : tyOf Tryz.prog 76 = some (false, 1) := by kernel_rfl
@[go_sem] theorem in76 : infoOf Tryz.prog 76 = some (1, 8) := by kernel_rfl
@[go_sem] theorem ct76 : cutTy Tryz.prog 76 = false := by kernel_rfl
@[go_sem] theorem so76 : solid Tryz.prog 76 = true := by kernel_rfl
@[go_sem] theorem ze76 : zeroV Tryz.prog 76 = some (.t .nilf) := by kernel_rfl
@[go_sem] theorem kd77 : kdOf Tryz.prog 77 = .other := by kernel_rfl
@[go_sem] theorem ty77 : tyOf Tryz.prog 77 = some (false, 1) := by kernel_rfl
@[go_sem] theorem in77 : infoOf Tryz.prog 77 = some (1, 16) := by kernel_rfl
@[go_sem] theorem ct77 : cutTy Tryz.prog 77 = false := by kernel_rfl
@[go_sem] theorem ze77 : zeroV Tryz.prog 77 = some (.t .nili) := by kernel_rfl
@[go_sem] theorem kd78 : kdOf Tryz.prog 78 = .other := by kernel_rfl
@[go_sem] theorem ty78 : tyOf Tryz.prog 78 = some (false, 1) := by kernel_rfl
@[go_sem] theorem in78 : infoOf Tryz.prog 78 = some (1, 16) := by kernel_rfl
@[go_sem] theorem ct78 : cutTy Tryz.prog 78 = false := by kernel_rfl
@[go_sem] theorem ze78 : zeroV Tryz.prog 78 = some (.t .nili) := by kernel_rfl
@[go_sem] theorem kd79 : kdOf Tryz.prog 79 = .fn := by kernel_rfl
@[go_sem] theorem ty79 : tyOf Tryz.prog 79 = some (false, 1) := by kernel_rfl
@[go_sem] theorem in79 : infoOf Tryz.prog 79 = some (1, 8) := by kernel_rfl
@[go_sem] theorem ct79 : cutTy Tryz.prog 79 = false := by kernel_rfl
@[go_sem] theorem so79 : solid Tryz.prog 79 = true := by kernel_rfl
@[go_sem] theorem ze79 : zeroV Tryz.prog 79 = some (.t .nilf) := by kernel_rfl
@[go_sem] theorem kd80 : kdOf Tryz.prog 80 = .fn := by kernel_rfl
@[go_sem] theorem ty80 : tyOf Tryz.prog 80 = some (false, 1) := by kernel_rfl
@[go_sem] theorem in80 : infoOf Tryz.prog 80 = some (1, 8) := by kernel_rfl
@[go_sem] theorem ct80 : cutTy Tryz.prog 80 = false := by kernel_rfl
@[go_sem] theorem so80 : solid Tryz.prog 80 = true := by kernel_rfl
@[go_sem] theorem ze80 : zeroV Tryz.prog 80 = some (.t .nilf) := by kernel_rfl
@[go_sem] theorem kd81 : kdOf Tryz.prog 81 = .fn := by kernel_rfl
@[go_sem] theorem ty81 : tyOf Tryz.prog 81 = some (false, 1) := by kernel_rfl
@[go_sem] theorem in81 : infoOf Tryz.prog 81 = some (1, 8) := by kernel_rfl
@[go_sem] theorem ct81 : cutTy Tryz.prog 81 = false := by kernel_rfl
@[go_sem] theorem so81 : solid Tryz.prog 81 = true := by kernel_rfl
@[go_sem] theorem ze81 : zeroV Tryz.prog 81 = some (.t .nilf) := by kernel_rfl
@[go_sem] theorem kd82 : kdOf Tryz.prog 82 = .fn := by kernel_rfl
@[go_sem] theorem ty82 : tyOf Tryz.prog 82 = some (false, 1) := by kernel_rfl
@[go_sem] theorem in82 : infoOf Tryz.prog 82 = some (1, 8) := by kernel_rfl
@[go_sem] theorem ct82 : cutTy Tryz.prog 82 = false := by kernel_rfl
@[go_sem] theorem so82 : solid Tryz.prog 82 = true := by kernel_rfl
@[go_sem] theorem ze82 : zeroV Tryz.prog 82 = some (.t .nilf) := by kernel_rfl
@[go_sem] theorem kd83 : kdOf Tryz.prog 83 = .fn := by kernel_rfl
@[go_sem] theorem ty83 : tyOf Tryz.prog 83 = some (false, 1) := by kernel_rfl
@[go_sem] theorem in83 : infoOf Tryz.prog 83 = some (1, 8) := by kernel_rfl
@[go_sem] theorem ct83 : cutTy Tryz.prog 83 = false := by kernel_rfl
@[go_sem] theorem so83 : solid Tryz.prog 83 = true := by kernel_rfl
@[go_sem] theorem ze83 : zeroV Tryz.prog 83 = some (.t .nilf) := by kernel_rfl
@[go_sem] theorem kd84 : kdOf Tryz.prog 84 = .fn := by kernel_rfl
@[go_sem] theorem ty84 : tyOf Tryz.prog 84 = some (false, 1) := by kernel_rfl
@[go_sem] theorem in84 : infoOf Tryz.prog 84 = some (1, 8) := by kernel_rfl
@[go_sem] theorem ct84 : cutTy Tryz.prog 84 = false := by kernel_rfl
@[go_sem] theorem so84 : solid Tryz.prog 84 = true := by kernel_rfl
@[go_sem] theorem ze84 : zeroV Tryz.prog 84 = some (.t .nilf) := by kernel_rfl
@[go_sem] theorem kd85 : kdOf Tryz.prog 85 = .fn := by kernel_rfl
@[go_sem] theorem ty85 : tyOf Tryz.prog 85 = some (false, 1) := by kernel_rfl
@[go_sem] theorem in85 : infoOf Tryz.prog 85 = some (1, 8) := by kernel_rfl
@[go_sem] theorem ct85 : cutTy Tryz.prog 85 = false := by kernel_rfl
@[go_sem] theorem so85 : solid Tryz.prog 85 = true := by kernel_rfl
@[go_sem] theorem ze85 : zeroV Tryz.prog 85 = some (.t .nilf) := by kernel_rfl
@[go_sem] theorem kd86 : kdOf Tryz.prog 86 = .fn := by kernel_rfl
@[go_sem] theorem ty86 : tyOf Tryz.prog 86 = some (false, 1) := by kernel_rfl
@[go_sem] theorem in86 : infoOf Tryz.prog 86 = some (1, 8) := by kernel_rfl
@[go_sem] theorem ct86 : cutTy Tryz.prog 86 = false := by kernel_rfl
@[go_sem] theorem so86 : solid Tryz.prog 86 = true := by kernel_rfl
@[go_sem] theorem ze86 : zeroV Tryz.prog 86 = some (.t .nilf) := by kernel_rfl
@[go_sem] theorem kd87 : kdOf Tryz.prog 87 = .fn := by kernel_rfl
@[go_sem] theorem ty87 : tyOf Tryz.prog 87 = some (false, 1) := by kernel_rfl
@[go_sem] theorem in87 : infoOf Tryz.prog 87 = some (1, 8) := by kernel_rfl
@[go_sem] theorem ct87 : cutTy Tryz.prog 87 = false := by kernel_rfl
@[go_sem] theorem so87 : solid Tryz.prog 87 = true := by kernel_rfl
@[go_sem] theorem ze87 : zeroV Tryz.prog 87 = some (.t .nilf) := by kernel_rfl
@[go_sem] theorem kd88 : kdOf Tryz.prog 88 = (.sl 5) := by kernel_rfl
@[go_sem] theorem ty88 : tyOf Tryz.prog 88 = some (false, 1) := by kernel_rfl
@[go_sem] theorem in88 : infoOf Tryz.prog 88 = some (1, 24) := by kernel_rfl
@[go_sem] theorem ct88 : cutTy Tryz.prog 88 = false := by kernel_rfl
@[go_sem] theorem so88 : solid Tryz.prog 88 = true := by kernel_rfl
@[go_sem] theorem ze88 : zeroV Tryz.prog 88 = some (.ex []) := by kernel_rfl
@[go_sem] theorem kd89 : kdOf Tryz.prog 89 = .fn := by kernel_rfl
@[go_sem] theorem ty89 : tyOf Tryz.prog 89 = some (false, 1) := by kernel_rfl
@[go_sem] theorem in89 : infoOf Tryz.prog 89 = some (1, 8) := by kernel_rfl
@[go_sem] theorem ct89 : cutTy Tryz.prog 89 = false := by kernel_rfl
@[go_sem] theorem so89 : solid Tryz.prog 89 = true := by kernel_rfl
@[go_sem] theorem ze89 : zeroV Tryz.prog 89 = some (.t .nilf) := by kernel_rfl
@[go_sem] theorem kd90 : kdOf Tryz.prog 90 = .fn := by kernel_rfl
@[go_sem] theorem ty90 : tyOf Tryz.prog 90 = some (false, 1) := by kernel_rfl
@[go_sem] theorem in90 : infoOf Tryz.prog 90 = some (1, 8) := by kernel_rfl
@[go_sem] theorem ct90 : cutTy Tryz.prog 90 = false := by kernel_rfl
@[go_sem] theorem so90 : solid Tryz.prog 90 = true := by kernel_rfl
@[go_sem] theorem ze90 : zeroV Tryz.prog 90 = some (.t .nilf) := by kernel_rfl
@[go_sem] theorem kd91 : kdOf Tryz.prog 91 = .other := by kernel_rfl
@[go_sem] theorem ty91 : tyOf Tryz.prog 91 = some (false, 1) := by kernel_rfl
@[go_sem] theorem in91 : infoOf Tryz.prog 91 = some (1, 0) := by kernel_rfl
@[go_sem] theorem ct91 : cutTy Tryz.prog 91 = false := by kernel_rfl
@[go_sem] theorem so91 : solid Tryz.prog 91 = true := by kernel_rfl
@[go_sem] theorem kd92 : kdOf Tryz.prog 92 = .fn := by kernel_rfl
@[go_sem] theorem ty92 : tyOf Tryz.prog 92 = some (false, 1) := by kernel_rfl
@[go_sem] theorem in92 : infoOf Tryz.prog 92 = some (1, 8) := by kernel_rfl
@[go_sem] theorem ct92 : cutTy Tryz.prog 92 = false := by kernel_rfl
@[go_sem] theorem so92 : solid Tryz.prog 92 = true := by kernel_rfl
@[go_sem] theorem ze92 : zeroV Tryz.prog 92 = some (.t .nilf) := by kernel_rfl
@[go_sem] theorem kd93 : kdOf Tryz.prog 93 = .fn := by kernel_rfl
@[go_sem] theorem ty93 : tyOf Tryz.prog 93 = some (false, 1) := by kernel_rfl
@[go_sem] theorem in93 : infoOf Tryz.prog 93 = some (1, 8) := by kernel_rfl
@[go_sem] theorem ct93 : cutTy Tryz.prog 93 = false := by kernel_rfl
@[go_sem] theorem so93 : solid Tryz.prog 93 = true := by kernel_rfl
@[go_sem] theorem ze93 : zeroV Tryz.prog 93 = some (.t .nilf) := by kernel_rfl
@[go_sem] theorem kd94 : kdOf Tryz.prog 94 = .fn := by kernel_rfl
@[go_sem] theorem ty94 : tyOf Tryz.prog 94 = some (false, 1) := by kernel_rfl
@[go_sem] theorem in94 : infoOf Tryz.prog 94 = some (1, 8) := by kernel_rfl
@[go_sem] theorem ct94 : cutTy Tryz.prog 94 = false := by kernel_rfl
@[go_sem] theorem so94 : solid Tryz.prog 94 = true := by kernel_rfl
@[go_sem] theorem ze94 : zeroV Tryz.prog 94 = some (.t .nilf) := by kernel_rfl
@[go_sem] theorem kd95 : kdOf Tryz.prog 95 = (.arr 24 5) := by kernel_rfl
@[go_sem] theorem ty95 : tyOf Tryz.prog 95 = some (true, 24) := by kernel_rfl
@[go_sem] theorem in95 : infoOf Tryz.prog 95 = some (24, 24) := by kernel_rfl
@[go_sem] theorem ct95 : cutTy Tryz.prog 95 = false := by kernel_rfl
@[go_sem] theorem so95 : solid Tryz.prog 95 = true := by kernel_rfl
@[go_sem] theorem ze95 : zeroV Tryz.prog 95 = some (.t (.agg [(.int .u8 0), (.int .u8 0), (.int .u8 0), (.int .u8 0), (.int .u8 0), (.int .u8 0), (.int .u8 0), (.int .u8 0), (.int .u8 0), (.int .u8 0), (.int .u8 0), (.int .u8 0), (.int .u8 0), (.int .u8 0), (.int .u8 0), (.int .u8 0), (.int .u8 0), (.int .u8 0), (.int .u8 0), (.int .u8 0), (.int .u8 0), (.int .u8 0), (.int .u8 0), (.int .u8 0)])) := by kernel_rfl
@[go_sem] theorem kd96 : kdOf Tryz.prog 96 = .fn := by kernel_rfl
@[go_sem] theorem ty96 : tyOf Tryz.prog 96 = some (false, 1) := by kernel_rfl
@[go_sem] theorem in96 : infoOf Tryz.prog 96 = some (1, 8) := by kernel_rfl
@[go_sem] theorem ct96 : cutTy Tryz.prog 96 = false := by kernel_rfl
@[go_sem] theorem so96 : solid Tryz.prog 96 = true := by kernel_rfl
@[go_sem] theorem ze96 : zeroV Tryz.prog 96 = some (.t .nilf) := by kernel_rfl
@[go_sem] theorem kd97 : kdOf Tryz.prog 97 = .fn := by kernel_rfl
@[go_sem] theorem ty97 : tyOf Tryz.prog 97 = some (false, 1) := by kernel_rfl
@[go_sem] theorem in97 : infoOf Tryz.prog 97 = some (1, 8) := by kernel_rfl
@[go_sem] theorem ct97 : cutTy Tryz.prog 97 = false := by kernel_rfl
@[go_sem] theorem so97 : solid Tryz.prog 97 = true := by kernel_rfl
@[go_sem] theorem ze97 : zeroV Tryz.prog 97 = some (.t .nilf) := by kernel_rfl
@[go_sem] theorem kd98 : kdOf Tryz.prog 98 = .other := by kernel_rfl
@[go_sem] theorem ty98 : tyOf Tryz.prog 98 = some (false, 1) := by kernel_rfl
@[go_sem] theorem in98 : infoOf Tryz.prog 98 = some (1, 0) := by kernel_rfl
@[go_sem] theorem ct98 : cutTy Tryz.prog 98 = false := by kernel_rfl
@[go_sem] theorem so98 : solid Tryz.prog 98 = true := by kernel_rfl
@[go_sem] theorem kd99 : kdOf Tryz.prog 99 = .fn := by kernel_rfl
@[go_sem] theorem ty99 : tyOf Tryz.prog 99 = some (false, 1) := by kernel_rfl
@[go_sem] theorem in99 : infoOf Tryz.prog 99 = some (1, 8) := by kernel_rfl
@[go_sem] theorem ct99 : cutTy Tryz.prog 99 = false := by kernel_rfl
@[go_sem] theorem so99 : solid Tryz.prog 99 = true := by kernel_rfl
@[go_sem] theorem ze99 : zeroV Tryz.prog 99 = some (.t .nilf) := by kernel_rfl
@[go_sem] theorem kd100 : kdOf Tryz.prog 100 = .ptr := by kernel_rfl
@[go_sem] theorem ty100 : tyOf Tryz.prog 100 = some (false, 1) := by kernel_rfl
@[go_sem] theorem in100 : infoOf Tryz.prog 100 = some (1, 8) := by kernel_rfl
@[go_sem] theorem ct100 : cutTy Tryz.prog 100 = false := by kernel_rfl
@[go_sem] theorem so100 : solid Tryz.prog 100 = true := by kernel_rfl
@[go_sem] theorem me100xGrow : methOf Tryz.prog 100 "Grow" = some (55, none) := by kernel_rfl
@[go_sem] theorem me100xLen : methOf Tryz.prog 100 "Len" = some (127, none) := by kernel_rfl
@[go_sem] theorem me100xReset : methOf Tryz.prog 100 "Reset" = some (128, none) := by kernel_rfl
@[go_sem] theorem me100xString : methOf Tryz.prog 100 "String" = some (57, none) := by kernel_rfl
@[go_sem] theorem me100xWriteString : methOf Tryz.prog 100 "WriteString" = some (56, none) := by kernel_rfl
@[go_sem] theorem me100xstrings_copyCheck : methOf Tryz.prog 100 "strings.copyCheck" = some (78, none) := by kernel_rfl
@[go_sem] theorem me100xstrings_grow : methOf Tryz.prog 100 "strings.grow" = some (79, none) := by kernel_rfl
@[go_sem] theorem ze100 : zeroV Tryz.prog 100 = some (.t .nilp) := by kernel_rfl
@[go_sem] theorem kd101 : kdOf Tryz.prog 101 = .struct := by kernel_rfl
@[go_sem] theorem ty101 : tyOf Tryz.prog 101 = some (true, 2) := by kernel_rfl
@[go_sem] theorem in101 : infoOf Tryz.prog 101 = some (2, 32) := by kernel_rfl
@[go_sem] theorem ct101 : cutTy Tryz.prog 101 = false := by kernel_rfl
@[go_sem] theorem so101 : solid Tryz.prog 101 = true := by kernel_rfl
@[go_sem] theorem ze101 : zeroV Tryz.prog 101 = some (.agg [.t .nilp, .ex []]) := by kernel_rfl
@[go_sem] theorem fs101 : fldsOf Tryz.prog 101 = some [(0, 1), (1, 1)] := by kernel_rfl
@[go_sem] theorem ff101x0 : fld1 Tryz.prog 101 0 = some 0 := by kernel_rfl
@[go_sem] theorem fl101x0 : fldOf Tryz.prog 101 0 = some (0, 1) := by kernel_rfl
@[go_sem] theorem ff101x1 : fld1 Tryz.prog 101 1 = some 1 := by kernel_rfl
@[go_sem] theorem fl101x1 : fldOf Tryz.prog 101 1 = some (1, 1) := by kernel_rfl
@[go_sem] theorem kd102 : kdOf Tryz.prog 102 = .struct := by kernel_rfl
@[go_sem] theorem ty102 : tyOf Tryz.prog 102 = some (true, 2) := by kernel_rfl
@[go_sem] theorem in102 : infoOf Tryz.prog 102 = some (2, 32) := by kernel_rfl
@[go_sem] theorem ct102 : cutTy Tryz.prog 102 = false := by kernel_rfl
@[go_sem] theorem so102 : solid Tryz.prog 102 = true := by kernel_rfl
@[go_sem] theorem ze102 : zeroV Tryz.prog 102 = some (.agg [.t .nilp, .ex []]) := by kernel_rfl
@[go_sem] theorem fs102 : fldsOf Tryz.prog 102 = some [(0, 1), (1, 1)] := by kernel_rfl
@[go_sem] theorem ff102x0 : fld1 Tryz.prog 102 0 = some 0 := by kernel_rfl
@[go_sem] theorem fl102x0 : fldOf Tryz.prog 102 0 = some (0, 1) := by kernel_rfl
@[go_sem] theorem ff102x1 : fld1 Tryz.prog 102 1 = some 1 := by kernel_rfl
@[go_sem] theorem fl102x1 : fldOf Tryz.prog 102 1 = some (1, 1) := by kernel_rfl
@[go_sem] theorem kd103 : kdOf Tryz.prog 103 = .fn := by kernel_rfl
@[go_sem] theorem ty103 : tyOf Tryz.prog 103 = some (false, 1) := by kernel_rfl
@[go_sem] theorem in103 : infoOf Tryz.prog 103 = some (1, 8) := by kernel_rfl
@[go_sem] theorem ct103 : cutTy Tryz.prog 103 = false := by kernel_rfl
@[go_sem] theorem so103 : solid Tryz.prog 103 = true := by kernel_rfl
@[go_sem] theorem ze103 : zeroV Tryz.prog 103 = some (.t .nilf) := by kernel_rfl
@[go_sem] theorem kd104 : kdOf Tryz.prog 104 = .fn := by kernel_rfl
@[go_sem] theorem ty104 : tyOf Tryz.prog 104 = some (false, 1) := by kernel_rfl
@[go_sem] theorem in104 : infoOf Tryz.prog 104 = some (1, 8) := by kernel_rfl
@[go_sem] theorem ct104 : cutTy Tryz.prog 104 = false := by kernel_rfl
@[go_sem] theorem so104 : solid Tryz.prog 104 = true := by kernel_rfl
@[go_sem] theorem ze104 : zeroV Tryz.prog 104 = some (.t .nilf) := by kernel_rfl
@[go_sem] theorem kd105 : kdOf Tryz.prog 105 = .fn := by kernel_rfl
@[go_sem] theorem ty105 : tyOf Tryz.prog 105 = some (false, 1) := by kernel_rfl
@[go_sem] theorem in105 : infoOf Tryz.prog 105 = some (1, 8) := by kernel_rfl
@[go_sem] theorem ct105 : cutTy Tryz.prog 105 = false := by kernel_rfl
@[go_sem] theorem so105 : solid Tryz.prog 105 = true := by kernel_rfl
@[go_sem] theorem ze105 : zeroV Tryz.prog 105 = some (.t .nilf) := by kernel_rfl
@[go_sem] theorem kd106 : kdOf Tryz.prog 106 = .fn := by kernel_rfl
@[go_sem] theorem ty106 : tyOf Tryz.prog 106 = some (false, 1) := by kernel_rfl
@[go_sem] theorem in106 : infoOf Tryz.prog 106 = some (1, 8) := by kernel_rfl
@[go_sem] theorem ct106 : cutTy Tryz.prog 106 = false := by kernel_rfl
@[go_sem] theorem so106 : solid Tryz.prog 106 = true := by kernel_rfl
@[go_sem] theorem ze106 : zeroV Tryz.prog 106 = some (.t .nilf) := by kernel_rfl
@[go_sem] theorem kd107 : kdOf Tryz.prog 107 = (.int .i64) := by kernel_rfl
@[go_sem] theorem ty107 : tyOf Tryz.prog 107 = some (false, 1) := by kernel_rfl
@[go_sem] theorem in107 : infoOf Tryz.prog 107 = some (1, 8) := by kernel_rfl
@[go_sem] theorem ct107 : cutTy Tryz.prog 107 = false := by kernel_rfl
@[go_sem] theorem so107 : solid Tryz.prog 107 = true := by kernel_rfl
@[go_sem] theorem ze107 : zeroV Tryz.prog 107 = some (.t (.int .i64 0)) := by kernel_rfl
@[go_sem] theorem kd108 : kdOf Tryz.prog 108 = .fn := by kernel_rfl
@[go_sem] theorem ty108 : tyOf Tryz.prog 108 = some (false, 1) := by kernel_rfl
@[go_sem] theorem in108 : infoOf Tryz.prog 108 = some (1, 8) := by kernel_rfl
@[go_sem] theorem ct108 : cutTy Tryz.prog 108 = false := by kernel_rfl
@[go_sem] theorem so108 : solid Tryz.prog 108 = true := by kernel_rfl
@[go_sem] theorem ze108 : zeroV Tryz.prog 108 = some (.t .nilf) := by kernel_rfl
@[go_sem] theorem kd109 : kdOf Tryz.prog 109 = (.int .u64) := by kernel_rfl
@[go_sem] theorem ty109 : tyOf Tryz.prog 109 = some (false, 1) := by kernel_rfl
@[go_sem] theorem in109 : infoOf Tryz.prog 109 = some (1, 8) := by kernel_rfl
@[go_sem] theorem ct109 : cutTy Tryz.prog 109 = false := by kernel_rfl
@[go_sem] theorem so109 : solid Tryz.prog 109 = true := by kernel_rfl
@[go_sem] theorem ze109 : zeroV Tryz.prog 109 = some (.t (.int .u64 0)) := by kernel_rfl
@[go_sem] theorem kd110 : kdOf Tryz.prog 110 = .fn := by kernel_rfl
@[go_sem] theorem ty110 : tyOf Tryz.prog 110 = some (false, 1) := by kernel_rfl
@[go_sem] theorem in110 : infoOf Tryz.prog 110 = some (1, 8) := by kernel_rfl
@[go_sem] theorem ct110 : cutTy Tryz.prog 110 = false := by kernel_rfl
@[go_sem] theorem so110 : solid Tryz.prog 110 = true := by kernel_rfl
@[go_sem] theorem ze110 : zeroV Tryz.prog 110 = some (.t .nilf) := by kernel_rfl
@[go_sem] theorem kd111 : kdOf Tryz.prog 111 = .ptr := by kernel_rfl
@[go_sem] theorem ty111 : tyOf Tryz.prog 111 = some (false, 1) := by kernel_rfl
@[go_sem] theorem in111 : infoOf Tryz.prog 111 = some (1, 8) := by kernel_rfl
@[go_sem] theorem ct111 : cutTy Tryz.prog 111 = false := by kernel_rfl
@[go_sem] theorem so111 : solid Tryz.prog 111 = true := by kernel_rfl
@[go_sem] theorem me111xError : methOf Tryz.prog 111 "Error" = some (130, none) := by kernel_rfl
@[go_sem] theorem ze111 : zeroV Tryz.prog 111 = some (.t .nilp) := by kernel_rfl
@[go_sem] theorem kd112 : kdOf Tryz.prog 112 = .fn := by kernel_rfl
@[go_sem] theorem ty112 : tyOf Tryz.prog 112 = some (false, 1) := by kernel_rfl
@[go_sem] theorem in112 : infoOf Tryz.prog 112 = some (1, 8) := by kernel_rfl
@[go_sem] theorem ct112 : cutTy Tryz.prog 112 = false := by kernel_rfl
@[go_sem] theorem so112 : solid Tryz.prog 112 = true := by kernel_rfl
@[go_sem] theorem ze112 : zeroV Tryz.prog 112 = some (.t .nilf) := by kernel_rfl
@[go_sem] theorem kd113 : kdOf Tryz.prog 113 = .fn := by kernel_rfl
@[go_sem] theorem ty113 : tyOf Tryz.prog 113 = some (false, 1) := by kernel_rfl
@[go_sem] theorem in113 : infoOf Tryz.prog 113 = some (1, 8) := by kernel_rfl
@[go_sem] theorem ct113 : cutTy Tryz.prog 113 = false := by kernel_rfl
@[go_sem] theorem so113 : solid Tryz.prog 113 = true := by kernel_rfl
@[go_sem] theorem ze113 : zeroV Tryz.prog 113 = some (.t .nilf) := by kernel_rfl
@[go_sem] theorem kd114 : kdOf Tryz.prog 114 = .other := by kernel_rfl
@[go_sem] theorem ty114 : tyOf Tryz.prog 114 = some (false, 1) := by kernel_rfl
@[go_sem] theorem in114 : infoOf Tryz.prog 114 = some (1, 0) := by kernel_rfl
@[go_sem] theorem ct114 : cutTy Tryz.prog 114 = false := by kernel_rfl
@[go_sem] theorem so114 : solid Tryz.prog 114 = true := by kernel_rfl
@[go_sem] theorem kd115 : kdOf Tryz.prog 115 = .fn := by kernel_rfl
@[go_sem] theorem ty115 : tyOf Tryz.prog 115 = some (false, 1) := by kernel_rfl
@[go_sem] theorem in115 : infoOf Tryz.prog 115 = some (1, 8) := by kernel_rfl
@[go_sem] theorem ct115 : cutTy Tryz.prog 115 = false := by kernel_rfl
@[go_sem] theorem so115 : solid Tryz.prog 115 = true := by kernel_rfl
@[go_sem] theorem ze115 : zeroV Tryz.prog 115 = some (.t .nilf) := by kernel_rfl
@[go_sem] theorem kd116 : kdOf Tryz.prog 116 = .fn := by kernel_rfl
@[go_sem] theorem ty116 : tyOf Tryz.prog 116 = some (false, 1) := by kernel_rfl
@[go_sem] theorem in116 : infoOf Tryz.prog 116 = some (1, 8) := by kernel_rfl
@[go_sem] theorem ct116 : cutTy Tryz.prog 116 = false := by kernel_rfl
@[go_sem] theorem so116 : solid Tryz.prog 116 = true := by kernel_rfl
@[go_sem] theorem ze116 : zeroV Tryz.prog 116 = some (.t .nilf) := by kernel_rfl
@[go_sem] theorem kd117 : kdOf Tryz.prog 117 = .fn := by kernel_rfl
@[go_sem] theorem ty117 : tyOf Tryz.prog 117 = some (false, 1) := by kernel_rfl
@[go_sem] theorem in117 : infoOf Tryz.prog 117 = some (1, 8) := by kernel_rfl
@[go_sem] theorem ct117 : cutTy Tryz.prog 117 = false := by kernel_rfl
@[go_sem] theorem so117 : solid Tryz.prog 117 = true := by kernel_rfl
@[go_sem] theorem ze117 : zeroV Tryz.prog 117 = some (.t .nilf) := by kernel_rfl
@[go_sem] theorem kd118 : kdOf Tryz.prog 118 = .fn := by kernel_rfl
@[go_sem] theorem ty118 : tyOf Tryz.prog 118 = some (false, 1) := by kernel_rfl
@[go_sem] theorem in118 : infoOf Tryz.prog 118 = some (1, 8) := by kernel_rfl
@[go_sem] theorem ct118 : cutTy Tryz.prog 118 = false := by kernel_rfl
@[go_sem] theorem so118 : solid Tryz.prog 118 = true := by kernel_rfl
@[go_sem] theorem ze118 : zeroV Tryz.prog 118 = some (.t .nilf) := by kernel_rfl
@[go_sem] theorem kd119 : kdOf Tryz.prog 119 = .fn := by kernel_rfl
@[go_sem] theorem ty119 : tyOf Tryz.prog 119 = some (false, 1) := by kernel_rfl
@[go_sem] theorem in119 : infoOf Tryz.prog 119 = some (1, 8) := by kernel_rfl
@[go_sem] theorem ct119 : cutTy Tryz.prog 119 = false := by kernel_rfl
@[go_sem] theorem so119 : solid Tryz.prog 119 = true := by kernel_rfl
@[go_sem] theorem ze119 : zeroV Tryz.prog 119 = some (.t .nilf) := by kernel_rfl
@[go_sem] theorem kd120 : kdOf Tryz.prog 120 = (.arr 20 64) := by kernel_rfl
@[go_sem] theorem ty120 : tyOf Tryz.prog 120 = some (true, 20) := by kernel_rfl
@[go_sem] theorem in120 : infoOf Tryz.prog 120 = some (20, 160) := by kernel_rfl
@[go_sem] theorem ct120 : cutTy Tryz.prog 120 = false := by kernel_rfl
@[go_sem] theorem so120 : solid Tryz.prog 120 = true := by kernel_rfl
@[go_sem] theorem ze120 : zeroV Tryz.prog 120 = some (.t (.agg [(.int .u64 0), (.int .u64 0), (.int .u64 0), (.int .u64 0), (.int .u64 0), (.int .u64 0), (.int .u64 0), (.int .u64 0), (.int .u64 0), (.int .u64 0), (.int .u64 0), (.int .u64 0), (.int .u64 0), (.int .u64 0), (.int .u64 0), (.int .u64 0), (.int .u64 0), (.int .u64 0), (.int .u64 0), (.int .u64 0)])) := by kernel_rfl
@[go_sem] theorem kd121 : kdOf Tryz.prog 121 = (.arr 65 5) := by kernel_rfl
@[go_sem] theorem ty121 : tyOf Tryz.prog 121 = some (true, 65) := by kernel_rfl
@[go_sem] theorem in121 : infoOf Tryz.prog 121 = some (65, 65) := by kernel_rfl
@[go_sem] theorem ct121 : cutTy Tryz.prog 121 = false := by kernel_rfl
@[go_sem] theorem so121 : solid Tryz.prog 121 = true := by kernel_rfl
@[go_sem] theorem ze121 : zeroV Tryz.prog 121 = some (.t (.agg [(.int .u8 0), (.int .u8 0), (.int .u8 0), (.int .u8 0), (.int .u8 0), (.int .u8 0), (.int .u8 0), (.int .u8 0), (.int .u8 0), (.int .u8 0), (.int .u8 0), (.int .u8 0), (.int .u8 0), (.int .u8 0), (.int .u8 0), (.int .u8 0), (.int .u8 0), (.int .u8 0), (.int .u8 0), (.int .u8 0), (.int .u8 0), (.int .u8 0), (.int .u8 0), (.int .u8 0), (.int .u8 0), (.int .u8 0), (.int .u8 0), (.int .u8 0), (.int .u8 0), (.int .u8 0), (.int .u8 0), (.int .u8 0), (.int .u8 0), (.int .u8 0), (.int .u8 0), (.int .u8 0), (.int .u8 0), (.int .u8 0), (.int .u8 0), (.int .u8 0), (.int .u8 0), (.int .u8 0), (.int .u8 0), (.int .u8 0), (.int .u8 0), (.int .u8 0), (.int .u8 0), (.int .u8 0), (.int .u8 0), (.int .u8 0), (.int .u8 0), (.int .u8 0), (.int .u8 0), (.int .u8 0), (.int .u8 0), (.int .u8 0), (.int .u8 0), (.int .u8 0), (.int .u8 0), (.int .u8 0), (.int .u8 0), (.int .u8 0), (.int .u8 0), (.int .u8 0), (.int .u8 0)])) := by kernel_rfl
@[go_sem] theorem kd122 : kdOf Tryz.prog 122 = .fn := by kernel_rfl
@[go_sem] theorem ty122 : tyOf Tryz.prog 122 = some (false, 1) := by kernel_rfl
@[go_sem] theorem in122 : infoOf Tryz.prog 122 = some (1, 8) := by kernel_rfl
@[go_sem] theorem ct122 : cutTy Tryz.prog 122 = false := by kernel_rfl
@[go_sem] theorem so122 : solid Tryz.prog 122 = true := by kernel_rfl
@[go_sem] theorem ze122 : zeroV Tryz.prog 122 = some (.t .nilf) := by kernel_rfl
@[go_sem] theorem kd123 : kdOf Tryz.prog 123 = .fn := by kernel_rfl
@[go_sem] theorem ty123 : tyOf Tryz.prog 123 = some (false, 1) := by kernel_rfl
@[go_sem] theorem in123 : infoOf Tryz.prog 123 = some (1, 8) := by kernel_rfl
@[go_sem] theorem ct123 : cutTy Tryz.prog 123 = false := by kernel_rfl
@[go_sem] theorem so123 : solid Tryz.prog 123 = true := by kernel_rfl
@[go_sem] theorem ze123 : zeroV Tryz.prog 123 = some (.t .nilf) := by kernel_rfl
@[go_sem] theorem kd124 : kdOf Tryz.prog 124 = .fn := by kernel_rfl
@[go_sem] theorem ty124 : tyOf Tryz.prog 124 = some (false, 1) := by kernel_rfl
@[go_sem] theorem in124 : infoOf Tryz.prog 124 = some (1, 8) := by kernel_rfl
@[go_sem] theorem ct124 : cutTy Tryz.prog 124 = false := by kernel_rfl
@[go_sem] theorem so124 : solid Tryz.prog 124 = true := by kernel_rfl
@[go_sem] theorem ze124 : zeroV Tryz.prog 124 = some (.t .nilf) := by kernel_rfl
@[go_sem] theorem kd125 : kdOf Tryz.prog 125 = .ptr := by kernel_rfl
@[go_sem] theorem ty125 : tyOf Tryz.prog 125 = some (false, 1) := by kernel_rfl
@[go_sem] theorem in125 : infoOf Tryz.prog 125 = some (1, 8) := by kernel_rfl
@[go_sem] theorem ct125 : cutTy Tryz.prog 125 = false := by kernel_rfl
@[go_sem] theorem so125 : solid Tryz.prog 125 = true := by kernel_rfl
@[go_sem] theorem ze125 : zeroV Tryz.prog 125 = some (.t .nilp) := by kernel_rfl
@[go_sem] theorem kd126 : kdOf Tryz.prog 126 = .fn := by kernel_rfl
@[go_sem] theorem ty126 : tyOf Tryz.prog 126 = some (false, 1) := by kernel_rfl
@[go_sem] theorem in126 : infoOf Tryz.prog 126 = some (1, 8) := by kernel_rfl
@[go_sem] theorem ct126 : cutTy Tryz.prog 126 = false := by kernel_rfl
@[go_sem] theorem so126 : solid Tryz.prog 126 = true := by kernel_rfl
@[go_sem] theorem ze126 : zeroV Tryz.prog 126 = some (.t .nilf) := by kernel_rfl
@[go_sem] theorem kd127 : kdOf Tryz.prog 127 = .fn := by kernel_rfl
@[go_sem] theorem ty127 : tyOf Tryz.prog 127 = some (false, 1) := by kernel_rfl
@[go_sem] theorem in127 : infoOf Tryz.prog 127 = some (1, 8) := by kernel_rfl
@[go_sem] theorem ct127 : cutTy Tryz.prog 127 = false := by kernel_rfl
@[go_sem] theorem so127 : solid Tryz.prog 127 = true := by kernel_rfl
@[go_sem] theorem ze127 : zeroV Tryz.prog 127 = some (.t .nilf) := by kernel_rfl
@[go_sem] theorem kd128 : kdOf Tryz.prog 128 = .fn := by kernel_rfl
@[go_sem] theorem ty128 : tyOf Tryz.prog 128 = some (false, 1) := by kernel_rfl
@[go_sem] theorem in128 : infoOf Tryz.prog 128 = some (1, 8) := by kernel_rfl
@[go_sem] theorem ct128 : cutTy Tryz.prog 128 = false := by kernel_rfl
@[go_sem] theorem so128 : solid Tryz.prog 128 = true := by kernel_rfl
@[go_sem] theorem ze128 : zeroV Tryz.prog 128 = some (.t .nilf) := by kernel_rfl
@[go_sem] theorem kd129 : kdOf Tryz.prog 129 = .struct := by kernel_rfl
@[go_sem] theorem ty129 : tyOf Tryz.prog 129 = some (true, 3) := by kernel_rfl
@[go_sem] theorem in129 : infoOf Tryz.prog 129 = some (3, 48) := by kernel_rfl
@[go_sem] theorem ct129 : cutTy Tryz.prog 129 = false := by kernel_rfl
@[go_sem] theorem so129 : solid Tryz.prog 129 = true := by kernel_rfl
@[go_sem] theorem ze129 : zeroV Tryz.prog 129 = some (.t (.agg [(.str ByteArray.empty), (.str ByteArray.empty), .nili])) := by kernel_rfl
@[go_sem] theorem fs129 : fldsOf Tryz.prog 129 = some [(0, 1), (1, 1), (2, 1)] := by kernel_rfl
@[go_sem] theorem ff129x0 : fld1 Tryz.prog 129 0 = some 0 := by kernel_rfl
@[go_sem] theorem fl129x0 : fldOf Tryz.prog 129 0 = some (0, 1) := by kernel_rfl
@[go_sem] theorem ff129x1 : fld1 Tryz.prog 129 1 = some 1 := by kernel_rfl
@[go_sem] theorem fl129x1 : fldOf Tryz.prog 129 1 = some (1, 1) := by kernel_rfl
@[go_sem] theorem ff129x2 : fld1 Tryz.prog 129 2 = some 2 := by kernel_rfl
@[go_sem] theorem fl129x2 : fldOf Tryz.prog 129 2 = some (2, 1) := by kernel_rfl
@[go_sem] theorem kd130 : kdOf Tryz.prog 130 = .struct := by kernel_rfl
@[go_sem] theorem ty130 : tyOf Tryz.prog 130 = some (true, 3) := by kernel_rfl
@[go_sem] theorem in130 : infoOf Tryz.prog 130 = some (3, 48) := by kernel_rfl
@[go_sem] theorem ct130 : cutTy Tryz.prog 130 = false := by kernel_rfl
@[go_sem] theorem so130 : solid Tryz.prog 130 = true := by kernel_rfl
@[go_sem] theorem ze130 : zeroV Tryz.prog 130 = some (.t (.agg [(.str ByteArray.empty), (.str ByteArray.empty), .nili])) := by kernel_rfl
@[go_sem] theorem fs130 : fldsOf Tryz.prog 130 = some [(0, 1), (1, 1), (2, 1)] := by kernel_rfl
@[go_sem] theorem ff130x0 : fld1 Tryz.prog 130 0 = some 0 := by kernel_rfl
@[go_sem] theorem fl130x0 : fldOf Tryz.prog 130 0 = some (0, 1) := by kernel_rfl
@[go_sem] theorem ff130x1 : fld1 Tryz.prog 130 1 = some 1 := by kernel_rfl
@[go_sem] theorem fl130x1 : fldOf Tryz.prog 130 1 = some (1, 1) := by kernel_rfl
@[go_sem] theorem ff130x2 : fld1 Tryz.prog 130 2 = some 2 := by kernel_rfl
@[go_sem] theorem fl130x2 : fldOf Tryz.prog 130 2 = some (2, 1) := by kernel_rfl
@[go_sem] theorem kd131 : kdOf Tryz.prog 131 = .fn := by kernel_rfl
@[go_sem] theorem ty131 : tyOf Tryz.prog 131 = some (false, 1) := by kernel_rfl
@[go_sem] theorem in131 : infoOf Tryz.prog 131 = some (1, 8) := by kernel_rfl
@[go_sem] theorem ct131 : cutTy Tryz.prog 131 = false := by kernel_rfl
@[go_sem] theorem so131 : solid Tryz.prog 131 = true := by kernel_rfl
@[go_sem] theorem ze131 : zeroV Tryz.prog 131 = some (.t .nilf) := by kernel_rfl
@[go_sem] theorem kd132 : kdOf Tryz.prog 132 = .other := by kernel_rfl
@[go_sem] theorem ty132 : tyOf Tryz.prog 132 = some (false, 1) := by kernel_rfl
@[go_sem] theorem in132 : infoOf Tryz.prog 132 = some (1, 0) := by kernel_rfl
@[go_sem] theorem ct132 : cutTy Tryz.prog 132 = false := by kernel_rfl
@[go_sem] theorem so132 : solid Tryz.prog 132 = true := by kernel_rfl
@[go_sem] theorem kd133 : kdOf Tryz.prog 133 = .fn := by kernel_rfl
@[go_sem] theorem ty133 : tyOf Tryz.prog 133 = some (false, 1) := by kernel_rfl
@[go_sem] theorem in133 : infoOf Tryz.prog 133 = some (1, 8) := by kernel_rfl
@[go_sem] theorem ct133 : cutTy Tryz.prog 133 = false := by kernel_rfl
@[go_sem] theorem so133 : solid Tryz.prog 133 = true := by kernel_rfl
@[go_sem] theorem ze133 : zeroV Tryz.prog 133 = some (.t .nilf) := by kernel_rfl
@[go_sem] theorem kd134 : kdOf Tryz.prog 134 = .fn := by kernel_rfl
@[go_sem] theorem ty134 : tyOf Tryz.prog 134 = some (false, 1) := by kernel_rfl
@[go_sem] theorem in134 : infoOf Tryz.prog 134 = some (1, 8) := by kernel_rfl
@[go_sem] theorem ct134 : cutTy Tryz.prog 134 = false := by kernel_rfl
@[go_sem] theorem so134 : solid Tryz.prog 134 = true := by kernel_rfl
@[go_sem] theorem ze134 : zeroV Tryz.prog 134 = some (.t .nilf) := by kernel_rfl
@[go_sem] theorem kd135 : kdOf Tryz.prog 135 = .other := by kernel_rfl
@[go_sem] theorem ty135 : tyOf Tryz.prog 135 = some (false, 1) := by kernel_rfl
@[go_sem] theorem in135 : infoOf Tryz.prog 135 = some (1, 8) := by kernel_rfl
@[go_sem] theorem ct135 : cutTy Tryz.prog 135 = false := by kernel_rfl
@[go_sem] theorem so135 : solid Tryz.prog 135 = true := by kernel_rfl
@[go_sem] theorem ze135 : zeroV Tryz.prog 135 = some (.t .nilp) := by kernel_rfl
@[go_sem] theorem kd136 : kdOf Tryz.prog 136 = .fn := by kernel_rfl
@[go_sem] theorem ty136 : tyOf Tryz.prog 136 = some (false, 1) := by kernel_rfl
@[go_sem] theorem in136 : infoOf Tryz.prog 136 = some (1, 8) := by kernel_rfl
@[go_sem] theorem ct136 : cutTy Tryz.prog 136 = false := by kernel_rfl
@[go_sem] theorem so136 : solid Tryz.prog 136 = true := by kernel_rfl
@[go_sem] theorem ze136 : zeroV Tryz.prog 136 = some (.t .nilf) := by kernel_rfl
@[go_sem] theorem kd137 : kdOf Tryz.prog 137 = .fn := by kernel_rfl
@[go_sem] theorem ty137 : tyOf Tryz.prog 137 = some (false, 1) := by kernel_rfl
@[go_sem] theorem in137 : infoOf Tryz.prog 137 = some (1, 8) := by kernel_rfl
@[go_sem] theorem ct137 : cutTy Tryz.prog 137 = false := by kernel_rfl
@[go_sem] theorem so137 : solid Tryz.prog 137 = true := by kernel_rfl
@[go_sem] theorem ze137 : zeroV Tryz.prog 137 = some (.t .nilf) := by kernel_rfl
@[go_sem] theorem kd138 : kdOf Tryz.prog 138 = .ptr := by kernel_rfl
@[go_sem] theorem ty138 : tyOf Tryz.prog 138 = some (false, 1) := by kernel_rfl
@[go_sem] theorem in138 : infoOf Tryz.prog 138 = some (1, 8) := by kernel_rfl
@[go_sem] theorem ct138 : cutTy Tryz.prog 138 = false := by kernel_rfl
@[go_sem] theorem so138 : solid Tryz.prog 138 = true := by kernel_rfl
@[go_sem] theorem me138xError : methOf Tryz.prog 138 "Error" = some (131, none) := by kernel_rfl
@[go_sem] theorem ze138 : zeroV Tryz.prog 138 = some (.t .nilp) := by kernel_rfl
@[go_sem] theorem kd139 : kdOf Tryz.prog 139 = .struct := by kernel_rfl
@[go_sem] theorem ty139 : tyOf Tryz.prog 139 = some (true, 1) := by kernel_rfl
@[go_sem] theorem in139 : infoOf Tryz.prog 139 = some (1, 16) := by kernel_rfl
@[go_sem] theorem ct139 : cutTy Tryz.prog 139 = false := by kernel_rfl
@[go_sem] theorem so139 : solid Tryz.prog 139 = true := by kernel_rfl
@[go_sem] theorem ze139 : zeroV Tryz.prog 139 = some (.t (.agg [(.str ByteArray.empty)])) := by kernel_rfl
@[go_sem] theorem fs139 : fldsOf Tryz.prog 139 = some [(0, 1)] := by kernel_rfl
@[go_sem] theorem ff139x0 : fld1 Tryz.prog 139 0 = some 0 := by kernel_rfl
@[go_sem] theorem fl139x0 : fldOf Tryz.prog 139 0 = some (0, 1) := by kernel_rfl
@[go_sem] theorem kd140 : kdOf Tryz.prog 140 = .struct := by kernel_rfl
@[go_sem] theorem ty140 : tyOf Tryz.prog 140 = some (true, 1) := by kernel_rfl
@[go_sem] theorem in140 : infoOf Tryz.prog 140 = some (1, 16) := by kernel_rfl
@[go_sem] theorem ct140 : cutTy Tryz.prog 140 = false := by kernel_rfl
@[go_sem] theorem so140 : solid Tryz.prog 140 = true := by kernel_rfl
@[go_sem] theorem ze140 : zeroV Tryz.prog 140 = some (.t (.agg [(.str ByteArray.empty)])) := by kernel_rfl
@[go_sem] theorem fs140 : fldsOf Tryz.prog 140 = some [(0, 1)] := by kernel_rfl
@[go_sem] theorem ff140x0 : fld1 Tryz.prog 140 0 = some 0 := by kernel_rfl
@[go_sem] theorem fl140x0 : fldOf Tryz.prog 140 0 = some (0, 1) := by kernel_rfl
@[go_sem] theorem kd141 : kdOf Tryz.prog 141 = (.arr 256 5) := by kernel_rfl
@[go_sem] theorem ty141 : tyOf Tryz.prog 141 = some (true, 256) := by kernel_rfl
@[go_sem] theorem in141 : infoOf Tryz.prog 141 = some (256, 256) := by kernel_rfl
@[go_sem] theorem ct141 : cutTy Tryz.prog 141 = false := by kernel_rfl
@[go_sem] theorem so141 : solid Tryz.prog 141 = true := by kernel_rfl
@[go_sem] theorem ze141 : zeroV Tryz.prog 141 = some (.t (.agg [(.int .u8 0), (.int .u8 0), (.int .u8 0), (.int .u8 0), (.int .u8 0), (.int .u8 0), (.int .u8 0), (.int .u8 0), (.int .u8 0), (.int .u8 0), (.int .u8 0), (.int .u8 0), (.int .u8 0), (.int .u8 0), (.int .u8 0), (.int .u8 0), (.int .u8 0), (.int .u8 0), (.int .u8 0), (.int .u8 0), (.int .u8 0), (.int .u8 0), (.int .u8 0), (.int .u8 0), (.int .u8 0), (.int .u8 0), (.int .u8 0), (.int .u8 0), (.int .u8 0), (.int .u8 0), (.int .u8 0), (.int .u8 0), (.int .u8 0), (.int .u8 0), (.int .u8 0), (.int .u8 0), (.int .u8 0), (.int .u8 0), (.int .u8 0), (.int .u8 0), (.int .u8 0), (.int .u8 0), (.int .u8 0), (.int .u8 0), (.int .u8 0), (.int .u8 0), (.int .u8 0), (.int .u8 0), (.int .u8 0), (.int .u8 0), (.int .u8 0), (.int .u8 0), (.int .u8 0), (.int .u8 0), (.int .u8 0), (.int .u8 0), (.int .u8 0), (.int .u8 0), (.int .u8 0), (.int .u8 0), (.int .u8 0), (.int .u8 0), (.int .u8 0), (.int .u8 0), (.int .u8 0), (.int .u8 0), (.int .u8 0), (.int .u8 0), (.int .u8 0), (.int .u8 0), (.int .u8 0), (.int .u8 0), (.int .u8 0), (.int .u8 0), (.int .u8 0), (.int .u8 0), (.int .u8 0), (.int .u8 0), (.int .u8 0), (.int .u8 0), (.int .u8 0), (.int .u8 0), (.int .u8 0), (.int .u8 0), (.int .u8 0), (.int .u8 0), (.int .u8 0), (.int .u8 0), (.int .u8 0), (.int .u8 0), (.int .u8 0), (.int .u8 0), (.int .u8 0), (.int .u8 0), (.int .u8 0), (.int .u8 0), (.int .u8 0), (.int .u8 0), (.int .u8 0), (.int .u8 0), (.int .u8 0), (.int .u8 0), (.int .u8 0), (.int .u8 0), (.int .u8 0), (.int .u8 0), (.int .u8 0), (.int .u8 0), (.int .u8 0), (.int .u8 0), (.int .u8 0), (.int .u8 0), (.int .u8 0), (.int .u8 0), (.int .u8 0), (.int .u8 0), (.int .u8 0), (.int .u8 0), (.int .u8 0), (.int .u8 0), (.int .u8 0), (.int .u8 0), (.int .u8 0), (.int .u8 0), (.int .u8 0), (.int .u8 0), (.int .u8 0), (.int .u8 0), (.int .u8 0), (.int .u8 0), (.int .u8 0), (.int .u8 0), (.int .u8 0), (.int .u8 0), (.int .u8 0), (.int .u8 0), (.int .u8 0), (.int .u8 0), (.int .u8 0), (.int .u8 0), (.int .u8 0), (.int .u8 0), (.int .u8 0), (.int .u8 0), (.int .u8 0), (.int .u8 0), (.int .u8 0), (.int .u8 0), (.int .u8 0), (.int .u8 0), (.int .u8 0), (.int .u8 0), (.int .u8 0), (.int .u8 0), (.int .u8 0), (.int .u8 0), (.int .u8 0), (.int .u8 0), (.int .u8 0), (.int .u8 0), (.int .u8 0), (.int .u8 0), (.int .u8 0), (.int .u8 0), (.int .u8 0), (.int .u8 0), (.int .u8 0), (.int .u8 0), (.int .u8 0), (.int .u8 0), (.int .u8 0), (.int .u8 0), (.int .u8 0), (.int .u8 0), (.int .u8 0), (.int .u8 0), (.int .u8 0), (.int .u8 0), (.int .u8 0), (.int .u8 0), (.int .u8 0), (.int .u8 0), (.int .u8 0), (.int .u8 0), (.int .u8 0), (.int .u8 0), (.int .u8 0), (.int .u8 0), (.int .u8 0), (.int .u8 0), (.int .u8 0), (.int .u8 0), (.int .u8 0), (.int .u8 0), (.int .u8 0), (.int .u8 0), (.int .u8 0), (.int .u8 0), (.int .u8 0), (.int .u8 0), (.int .u8 0), (.int .u8 0), (.int .u8 0), (.int .u8 0), (.int .u8 0), (.int .u8 0), (.int .u8 0), (.int .u8 0), (.int .u8 0), (.int .u8 0), (.int .u8 0), (.int .u8 0), (.int .u8 0), (.int .u8 0), (.int .u8 0), (.int .u8 0), (.int .u8 0), (.int .u8 0), (.int .u8 0), (.int .u8 0), (.int .u8 0), (.int .u8 0), (.int .u8 0), (.int .u8 0), (.int .u8 0), (.int .u8 0), (.int .u8 0), (.int .u8 0), (.int .u8 0), (.int .u8 0), (.int .u8 0), (.int .u8 0), (.int .u8 0), (.int .u8 0), (.int .u8 0), (.int .u8 0), (.int .u8 0), (.int .u8 0), (.int .u8 0), (.int .u8 0), (.int .u8 0), (.int .u8 0), (.int .u8 0), (.int .u8 0), (.int .u8 0), (.int .u8 0), (.int .u8 0), (.int .u8 0), (.int .u8 0), (.int .u8 0), (.int .u8 0), (.int .u8 0), (.int .u8 0), (.int .u8 0), (.int .u8 0), (.int .u8 0)])) := by kernel_rfl
@[go_sem] theorem kd142 : kdOf Tryz.prog 142 = .struct := by kernel_rfl
@[go_sem] theorem ty142 : tyOf Tryz.prog 142 = some (true, 2) := by kernel_rfl
@[go_sem] theorem in142 : infoOf Tryz.prog 142 = some (2, 2) := by kernel_rfl
@[go_sem] theorem ct142 : cutTy Tryz.prog 142 = false := by kernel_rfl
@[go_sem] theorem so142 : solid Tryz.prog 142 = true := by kernel_rfl
@[go_sem] theorem ze142 : zeroV Tryz.prog 142 = some (.t (.agg [(.int .u8 0), (.int .u8 0)])) := by kernel_rfl
@[go_sem] theorem fs142 : fldsOf Tryz.prog 142 = some [(0, 1), (1, 1)] := by kernel_rfl
@[go_sem] theorem ff142x0 : fld1 Tryz.prog 142 0 = some 0 := by kernel_rfl
@[go_sem] theorem fl142x0 : fldOf Tryz.prog 142 0 = some (0, 1) := by kernel_rfl
@[go_sem] theorem ff142x1 : fld1 Tryz.prog 142 1 = some 1 := by kernel_rfl
@[go_sem] theorem fl142x1 : fldOf Tryz.prog 142 1 = some (1, 1) := by kernel_rfl
@[go_sem] theorem kd143 : kdOf Tryz.prog 143 = .struct := by kernel_rfl
@[go_sem] theorem ty143 : tyOf Tryz.prog 143 = some (true, 2) := by kernel_rfl
@[go_sem] theorem in143 : infoOf Tryz.prog 143 = some (2, 2) := by kernel_rfl
@[go_sem] theorem ct143 : cutTy Tryz.prog 143 = false := by kernel_rfl
@[go_sem] theorem so143 : solid Tryz.prog 143 = true := by kernel_rfl
@[go_sem] theorem ze143 : zeroV Tryz.prog 143 = some (.t (.agg [(.int .u8 0), (.int .u8 0)])) := by kernel_rfl
@[go_sem] theorem fs143 : fldsOf Tryz.prog 143 = some [(0, 1), (1, 1)] := by kernel_rfl
@[go_sem] theorem ff143x0 : fld1 Tryz.prog 143 0 = some 0 := by kernel_rfl
@[go_sem] theorem fl143x0 : fldOf Tryz.prog 143 0 = some (0, 1) := by kernel_rfl
@[go_sem] theorem ff143x1 : fld1 Tryz.prog 143 1 = some 1 := by kernel_rfl
@[go_sem] theorem fl143x1 : fldOf Tryz.prog 143 1 = some (1, 1) := by kernel_rfl
@[go_sem] theorem kd144 : kdOf Tryz.prog 144 = (.arr 16 143) := by kernel_rfl
@[go_sem] theorem ty144 : tyOf Tryz.prog 144 = some (true, 32) := by kernel_rfl
@[go_sem] theorem in144 : infoOf Tryz.prog 144 = some (32, 32) := by kernel_rfl
@[go_sem] theorem ct144 : cutTy Tryz.prog 144 = false := by kernel_rfl
@[go_sem] theorem so144 : solid Tryz.prog 144 = true := by kernel_rfl
@[go_sem] theorem ze144 : zeroV Tryz.prog 144 = some (.t (.agg [(.int .u8 0), (.int .u8 0), (.int .u8 0), (.int .u8 0), (.int .u8 0), (.int .u8 0), (.int .u8 0), (.int .u8 0), (.int .u8 0), (.int .u8 0), (.int .u8 0), (.int .u8 0), (.int .u8 0), (.int .u8 0), (.int .u8 0), (.int .u8 0), (.int .u8 0), (.int .u8 0), (.int .u8 0), (.int .u8 0), (.int .u8 0), (.int .u8 0), (.int .u8 0), (.int .u8 0), (.int .u8 0), (.int .u8 0), (.int .u8 0), (.int .u8 0), (.int .u8 0), (.int .u8 0), (.int .u8 0), (.int .u8 0)])) := by kernel_rfl
@[go_sem] theorem kd145 : kdOf Tryz.prog 145 = (.arr 32 5) := by kernel_rfl
@[go_sem] theorem ty145 : tyOf Tryz.prog 145 = some (true, 32) := by kernel_rfl
@[go_sem] theorem in145 : infoOf Tryz.prog 145 = some (32, 32) := by kernel_rfl
@[go_sem] theorem ct145 : cutTy Tryz.prog 145 = false := by kernel_rfl
@[go_sem] theorem so145 : solid Tryz.prog 145 = true := by kernel_rfl
@[go_sem] theorem ze145 : zeroV Tryz.prog 145 = some (.t (.agg [(.int .u8 0), (.int .u8 0), (.int .u8 0), (.int .u8 0), (.int .u8 0), (.int .u8 0), (.int .u8 0), (.int .u8 0), (.int .u8 0), (.int .u8 0), (.int .u8 0), (.int .u8 0), (.int .u8 0), (.int .u8 0), (.int .u8 0), (.int .u8 0), (.int .u8 0), (.int .u8 0), (.int .u8 0), (.int .u8 0), (.int .u8 0), (.int .u8 0), (.int .u8 0), (.int .u8 0), (.int .u8 0), (.int .u8 0), (.int .u8 0), (.int .u8 0), (.int .u8 0), (.int .u8 0), (.int .u8 0), (.int .u8 0)])) := by kernel_rfl
@[go_sem] theorem kd146 : kdOf Tryz.prog 146 = (.arr 64 5) := by kernel_rfl
@[go_sem] theorem ty146 : tyOf Tryz.prog 146 = some (true, 64) := by kernel_rfl
@[go_sem] theorem in146 : infoOf Tryz.prog 146 = some (64, 64) := by kernel_rfl
@[go_sem] theorem ct146 : cutTy Tryz.prog 146 = false := by kernel_rfl
@[go_sem] theorem so146 : solid Tryz.prog 146 = true := by kernel_rfl
@[go_sem] theorem ze146 : zeroV Tryz.prog 146 = some (.t (.agg [(.int .u8 0), (.int .u8 0), (.int .u8 0), (.int .u8 0), (.int .u8 0), (.int .u8 0), (.int .u8 0), (.int .u8 0), (.int .u8 0), (.int .u8 0), (.int .u8 0), (.int .u8 0), (.int .u8 0), (.int .u8 0), (.int .u8 0), (.int .u8 0), (.int .u8 0), (.int .u8 0), (.int .u8 0), (.int .u8 0), (.int .u8 0), (.int .u8 0), (.int .u8 0), (.int .u8 0), (.int .u8 0), (.int .u8 0), (.int .u8 0), (.int .u8 0), (.int .u8 0), (.int .u8 0), (.int .u8 0), (.int .u8 0), (.int .u8 0), (.int .u8 0), (.int .u8 0), (.int .u8 0), (.int .u8 0), (.int .u8 0), (.int .u8 0), (.int .u8 0), (.int .u8 0), (.int .u8 0), (.int .u8 0), (.int .u8 0), (.int .u8 0), (.int .u8 0), (.int .u8 0), (.int .u8 0), (.int .u8 0), (.int .u8 0), (.int .u8 0), (.int .u8 0), (.int .u8 0), (.int .u8 0), (.int .u8 0), (.int .u8 0), (.int .u8 0), (.int .u8 0), (.int .u8 0), (.int .u8 0), (.int .u8 0), (.int .u8 0), (.int .u8 0), (.int .u8 0)])) := by kernel_rfl
@[go_sem] theorem kd147 : kdOf Tryz.prog 147 = .other := by kernel_rfl
@[go_sem] theorem ty147 : tyOf Tryz.prog 147 = some (false, 1) := by kernel_rfl
@[go_sem] theorem in147 : infoOf Tryz.prog 147 = some (1, 0) := by kernel_rfl
@[go_sem] theorem ct147 : cutTy Tryz.prog 147 = false := by kernel_rfl
@[go_sem] theorem so147 : solid Tryz.prog 147 = true := by kernel_rfl
@[go_sem] theorem kd148 : kdOf Tryz.prog 148 = .fn := by kernel_rfl
@[go_sem] theorem ty148 : tyOf Tryz.prog 148 = some (false, 1) := by kernel_rfl
@[go_sem] theorem in148 : infoOf Tryz.prog 148 = some (1, 8) := by kernel_rfl
@[go_sem] theorem ct148 : cutTy Tryz.prog 148 = false := by kernel_rfl
@[go_sem] theorem so148 : solid Tryz.prog 148 = true := by kernel_rfl
@[go_sem] theorem ze148 : zeroV Tryz.prog 148 = some (.t .nilf) := by kernel_rfl
@[go_sem] theorem kd149 : kdOf Tryz.prog 149 = .struct := by kernel_rfl
@[go_sem] theorem ty149 : tyOf Tryz.prog 149 = some (true, 4) := by kernel_rfl
@[go_sem] theorem in149 : infoOf Tryz.prog 149 = some (4, 40) := by kernel_rfl
@[go_sem] theorem ct149 : cutTy Tryz.prog 149 = false := by kernel_rfl
@[go_sem] theorem so149 : solid Tryz.prog 149 = true := by kernel_rfl
@[go_sem] theorem ze149 : zeroV Tryz.prog 149 = some (.t (.agg [.nilp, .nilp, .nilp, (.str ByteArray.empty)])) := by kernel_rfl
@[go_sem] theorem fs149 : fldsOf Tryz.prog 149 = some [(0, 1), (1, 1), (2, 1), (3, 1)] := by kernel_rfl
@[go_sem] theorem ff149x0 : fld1 Tryz.prog 149 0 = some 0 := by kernel_rfl
@[go_sem] theorem fl149x0 : fldOf Tryz.prog 149 0 = some (0, 1) := by kernel_rfl
@[go_sem] theorem ff149x1 : fld1 Tryz.prog 149 1 = some 1 := by kernel_rfl
@[go_sem] theorem fl149x1 : fldOf Tryz.prog 149 1 = some (1, 1) := by kernel_rfl
@[go_sem] theorem ff149x2 : fld1 Tryz.prog 149 2 = some 2 := by kernel_rfl
@[go_sem] theorem fl149x2 : fldOf Tryz.prog 149 2 = some (2, 1) := by kernel_rfl
@[go_sem] theorem ff149x3 : fld1 Tryz.prog 149 3 = some 3 := by kernel_rfl
@[go_sem] theorem fl149x3 : fldOf Tryz.prog 149 3 = some (3, 1) := by kernel_rfl
@[go_sem] theorem kd150 : kdOf Tryz.prog 150 = .struct := by kernel_rfl
@[go_sem] theorem ty150 : tyOf Tryz.prog 150 = some (true, 4) := by kernel_rfl
@[go_sem] theorem in150 : infoOf Tryz.prog 150 = some (4, 40) := by kernel_rfl
@[go_sem] theorem ct150 : cutTy Tryz.prog 150 = false := by kernel_rfl
@[go_sem] theorem so150 : solid Tryz.prog 150 = true := by kernel_rfl
@[go_sem] theorem ze150 : zeroV Tryz.prog 150 = some (.t (.agg [.nilp, .nilp, .nilp, (.str ByteArray.empty)])) := by kernel_rfl
@[go_sem] theorem fs150 : fldsOf Tryz.prog 150 = some [(0, 1), (1, 1), (2, 1), (3, 1)] := by kernel_rfl
@[go_sem] theorem ff150x0 : fld1 Tryz.prog 150 0 = some 0 := by kernel_rfl
@[go_sem] theorem fl150x0 : fldOf Tryz.prog 150 0 = some (0, 1) := by kernel_rfl
@[go_sem] theorem ff150x1 : fld1 Tryz.prog 150 1 = some 1 := by kernel_rfl
@[go_sem] theorem fl150x1 : fldOf Tryz.prog 150 1 = some (1, 1) := by kernel_rfl
@[go_sem] theorem ff150x2 : fld1 Tryz.prog 150 2 = some 2 := by kernel_rfl
@[go_sem] theorem fl150x2 : fldOf Tryz.prog 150 2 = some (2, 1) := by kernel_rfl
@[go_sem] theorem ff150x3 : fld1 Tryz.prog 150 3 = some 3 := by kernel_rfl
@[go_sem] theorem fl150x3 : fldOf Tryz.prog 150 3 = some (3, 1) := by kernel_rfl
@[go_sem] theorem kd151 : kdOf Tryz.prog 151 = (.arr 0 16) := by kernel_rfl
@[go_sem] theorem ty151 : tyOf Tryz.prog 151 = some (true, 0) := by kernel_rfl
@[go_sem] theorem in151 : infoOf Tryz.prog 151 = some (0, 0) := by kernel_rfl
@[go_sem] theorem ct151 : cutTy Tryz.prog 151 = false := by kernel_rfl
@[go_sem] theorem so151 : solid Tryz.prog 151 = true := by kernel_rfl
@[go_sem] theorem ze151 : zeroV Tryz.prog 151 = some (.t (.agg [])) := by kernel_rfl
@[go_sem] theorem kd152 : kdOf Tryz.prog 152 = .struct := by kernel_rfl
@[go_sem] theorem ty152 : tyOf Tryz.prog 152 = some (true, 0) := by kernel_rfl
@[go_sem] theorem in152 : infoOf Tryz.prog 152 = some (0, 0) := by kernel_rfl
@[go_sem] theorem ct152 : cutTy Tryz.prog 152 = false := by kernel_rfl
@[go_sem] theorem so152 : solid Tryz.prog 152 = true := by kernel_rfl
@[go_sem] theorem ze152 : zeroV Tryz.prog 152 = some (.t (.agg [])) := by kernel_rfl
@[go_sem] theorem fs152 : fldsOf Tryz.prog 152 = some [(0, 0)] := by kernel_rfl
@[go_sem] theorem fl152x0 : fldOf Tryz.prog 152 0 = some (0, 0) := by kernel_rfl
@[go_sem] theorem kd153 : kdOf Tryz.prog 153 = .struct := by kernel_rfl
@[go_sem] theorem ty153 : tyOf Tryz.prog 153 = some (true, 0) := by kernel_rfl
@[go_sem] theorem in153 : infoOf Tryz.prog 153 = some (0, 0) := by kernel_rfl
@[go_sem] theorem ct153 : cutTy Tryz.prog 153 = false := by kernel_rfl
@[go_sem] theorem so153 : solid Tryz.prog 153 = true := by kernel_rfl
@[go_sem] theorem ze153 : zeroV Tryz.prog 153 = some (.t (.agg [])) := by kernel_rfl
@[go_sem] theorem fs153 : fldsOf Tryz.prog 153 = some [(0, 0)] := by kernel_rfl
@[go_sem] theorem fl153x0 : fldOf Tryz.prog 153 0 = some (0, 0) := by kernel_rfl
@[go_sem] theorem kd154 : kdOf Tryz.prog 154 = (.int .u8) := by kernel_rfl
@[go_sem] theorem ty154 : tyOf Tryz.prog 154 = some (false, 1) := by kernel_rfl
@[go_sem] theorem in154 : infoOf Tryz.prog 154 = some (1, 1) := by kernel_rfl
@[go_sem] theorem ct154 : cutTy Tryz.prog 154 = false := by kernel_rfl
@[go_sem] theorem so154 : solid Tryz.prog 154 = true := by kernel_rfl
@[go_sem] theorem ze154 : zeroV Tryz.prog 154 = some (.t (.int .u8 0)) := by kernel_rfl
@[go_sem] theorem kd155 : kdOf Tryz.prog 155 = (.int .u8) := by kernel_rfl
@[go_sem] theorem ty155 : tyOf Tryz.prog 155 = some (false, 1) := by kernel_rfl
@[go_sem] theorem in155 : infoOf Tryz.prog 155 = some (1, 1) := by kernel_rfl
@[go_sem] theorem ct155 : cutTy Tryz.prog 155 = false := by kernel_rfl
@[go_sem] theorem so155 : solid Tryz.prog 155 = true := by kernel_rfl
@[go_sem] theorem ze155 : zeroV Tryz.prog 155 = some (.t (.int .u8 0)) := by kernel_rfl
@[go_sem] theorem kd156 : kdOf Tryz.prog 156 = .fn := by kernel_rfl
@[go_sem] theorem ty156 : tyOf Tryz.prog 156 = some (false, 1) := by kernel_rfl
@[go_sem] theorem in156 : infoOf Tryz.prog 156 = some (1, 8) := by kernel_rfl
@[go_sem] theorem ct156 : cutTy Tryz.prog 156 = false := by kernel_rfl
@[go_sem] theorem so156 : solid Tryz.prog 156 = true := by kernel_rfl
@[go_sem] theorem ze156 : zeroV Tryz.prog 156 = some (.t .nilf) := by kernel_rfl
@[go_sem] theorem kd157 : kdOf Tryz.prog 157 = (.int .i32) := by kernel_rfl
@[go_sem] theorem ty157 : tyOf Tryz.prog 157 = some (false, 1) := by kernel_rfl
@[go_sem] theorem in157 : infoOf Tryz.prog 157 = some (1, 4) := by kernel_rfl
@[go_sem] theorem ct157 : cutTy Tryz.prog 157 = false := by kernel_rfl
@[go_sem] theorem so157 : solid Tryz.prog 157 = true := by kernel_rfl
@[go_sem] theorem ze157 : zeroV Tryz.prog 157 = some (.t (.int .i32 0)) := by kernel_rfl
@[go_sem] theorem kd158 : kdOf Tryz.prog 158 = (.int .i32) := by kernel_rfl
@[go_sem] theorem ty158 : tyOf Tryz.prog 158 = some (false, 1) := by kernel_rfl
@[go_sem] theorem in158 : infoOf Tryz.prog 158 = some (1, 4) := by kernel_rfl
@[go_sem] theorem ct158 : cutTy Tryz.prog 158 = false := by kernel_rfl
@[go_sem] theorem so158 : solid Tryz.prog 158 = true := by kernel_rfl
@[go_sem] theorem ze158 : zeroV Tryz.prog 158 = some (.t (.int .i32 0)) := by kernel_rfl
@[go_sem] theorem kd159 : kdOf Tryz.prog 159 = .struct := by kernel_rfl
@[go_sem] theorem ty159 : tyOf Tryz.prog 159 = some (true, 11) := by kernel_rfl
@[go_sem] theorem in159 : infoOf Tryz.prog 159 = some (11, 48) := by kernel_rfl
@[go_sem] theorem ct159 : cutTy Tryz.prog 159 = false := by kernel_rfl
@[go_sem] theorem so159 : solid Tryz.prog 159 = true := by kernel_rfl
@[go_sem] theorem ze159 : zeroV Tryz.prog 159 = some (.t (.agg [(.int .u64 0), (.int .u64 0), (.int .u32 0), (.int .u8 0), (.int .u8 0), (.int .u8 0), (.int .u8 0), .nilf, .nilp, (.int .i32 0), (.int .i32 0)])) := by kernel_rfl
@[go_sem] theorem fs159 : fldsOf Tryz.prog 159 = some [(0, 1), (1, 1), (2, 1), (3, 1), (4, 1), (5, 1), (6, 1), (7, 1), (8, 1), (9, 1), (10, 1)] := by kernel_rfl
@[go_sem] theorem ff159x0 : fld1 Tryz.prog 159 0 = some 0 := by kernel_rfl
@[go_sem] theorem fl159x0 : fldOf Tryz.prog 159 0 = some (0, 1) := by kernel_rfl
@[go_sem] theorem ff159x1 : fld1 Tryz.prog 159 1 = some 1 := by kernel_rfl
@[go_sem] theorem fl159x1 : fldOf Tryz.prog 159 1 = some (1, 1) := by kernel_rfl
@[go_sem] theorem ff159x2 : fld1 Tryz.prog 159 2 = some 2 := by kernel_rfl
@[go_sem] theorem fl159x2 : fldOf Tryz.prog 159 2 = some (2, 1) := by kernel_rfl
@[go_sem] theorem ff159x3 : fld1 Tryz.prog 159 3 = some 3 := by kernel_rfl
@[go_sem] theorem fl159x3 : fldOf Tryz.prog 159 3 = some (3, 1) := by kernel_rfl
@[go_sem] theorem ff159x4 : fld1 Tryz.prog 159 4 = some 4 := by kernel_rfl
@[go_sem] theorem fl159x4 : fldOf Tryz.prog 159 4 = some (4, 1) := by kernel_rfl
@[go_sem] theorem ff159x5 : fld1 Tryz.prog 159 5 = some 5 := by kernel_rfl
@[go_sem] theorem fl159x5 : fldOf Tryz.prog 159 5 = some (5, 1) := by kernel_rfl
@[go_sem] theorem ff159x6 : fld1 Tryz.prog 159 6 = some 6 := by kernel_rfl
@[go_sem] theorem fl159x6 : fldOf Tryz.prog 159 6 = some (6, 1) := by kernel_rfl
@[go_sem] theorem ff159x7 : fld1 Tryz.prog 159 7 = some 7 := by kernel_rfl
@[go_sem] theorem fl159x7 : fldOf Tryz.prog 159 7 = some (7, 1) := by kernel_rfl
@[go_sem] theorem ff159x8 : fld1 Tryz.prog 159 8 = some 8 := by kernel_rfl
@[go_sem] theorem fl159x8 : fldOf Tryz.prog 159 8 = some (8, 1) := by kernel_rfl
@[go_sem] theorem ff159x9 : fld1 Tryz.prog 159 9 = some 9 := by kernel_rfl
@[go_sem] theorem fl159x9 : fldOf Tryz.prog 159 9 = some (9, 1) := by kernel_rfl
@[go_sem] theorem ff159x10 : fld1 Tryz.prog 159 10 = some 10 := by kernel_rfl
@[go_sem] theorem fl159x10 : fldOf Tryz.prog 159 10 = some (10, 1) := by kernel_rfl
@[go_sem] theorem kd160 : kdOf Tryz.prog 160 = .struct := by kernel_rfl
@[go_sem] theorem ty160 : tyOf Tryz.prog 160 = some (true, 11) := by kernel_rfl
@[go_sem] theorem in160 : infoOf Tryz.prog 160 = some (11, 48) := by kernel_rfl
@[go_sem] theorem ct160 : cutTy Tryz.prog 160 = false := by kernel_rfl
@[go_sem] theorem so160 : solid Tryz.prog 160 = true := by kernel_rfl
@[go_sem] theorem ze160 : zeroV Tryz.prog 160 = some (.t (.agg [(.int .u64 0), (.int .u64 0), (.int .u32 0), (.int .u8 0), (.int .u8 0), (.int .u8 0), (.int .u8 0), .nilf, .nilp, (.int .i32 0), (.int .i32 0)])) := by kernel_rfl
@[go_sem] theorem fs160 : fldsOf Tryz.prog 160 = some [(0, 1), (1, 1), (2, 1), (3, 1), (4, 1), (5, 1), (6, 1), (7, 1), (8, 1), (9, 1), (10, 1)] := by kernel_rfl
@[go_sem] theorem ff160x0 : fld1 Tryz.prog 160 0 = some 0 := by kernel_rfl
@[go_sem] theorem fl160x0 : fldOf Tryz.prog 160 0 = some (0, 1) := by kernel_rfl
@[go_sem] theorem ff160x1 : fld1 Tryz.prog 160 1 = some 1 := by kernel_rfl
@[go_sem] theorem fl160x1 : fldOf Tryz.prog 160 1 = some (1, 1) := by kernel_rfl
@[go_sem] theorem ff160x2 : fld1 Tryz.prog 160 2 = some 2 := by kernel_rfl
@[go_sem] theorem fl160x2 : fldOf Tryz.prog 160 2 = some (2, 1) := by kernel_rfl
@[go_sem] theorem ff160x3 : fld1 Tryz.prog 160 3 = some 3 := by kernel_rfl
@[go_sem] theorem fl160x3 : fldOf Tryz.prog 160 3 = some (3, 1) := by kernel_rfl
@[go_sem] theorem ff160x4 : fld1 Tryz.prog 160 4 = some 4 := by kernel_rfl
@[go_sem] theorem fl160x4 : fldOf Tryz.prog 160 4 = some (4, 1) := by kernel_rfl
@[go_sem] theorem ff160x5 : fld1 Tryz.prog 160 5 = some 5 := by kernel_rfl
@[go_sem] theorem fl160x5 : fldOf Tryz.prog 160 5 = some (5, 1) := by kernel_rfl
@[go_sem] theorem ff160x6 : fld1 Tryz.prog 160 6 = some 6 := by kernel_rfl
@[go_sem] theorem fl160x6 : fldOf Tryz.prog 160 6 = some (6, 1) := by kernel_rfl
@[go_sem] theorem ff160x7 : fld1 Tryz.prog 160 7 = some 7 := by kernel_rfl
@[go_sem] theorem fl160x7 : fldOf Tryz.prog 160 7 = some (7, 1) := by kernel_rfl
@[go_sem] theorem ff160x8 : fld1 Tryz.prog 160 8 = some 8 := by kernel_rfl
@[go_sem] theorem fl160x8 : fldOf Tryz.prog 160 8 = some (8, 1) := by kernel_rfl
@[go_sem] theorem ff160x9 : fld1 Tryz.prog 160 9 = some 9 := by kernel_rfl
@[go_sem] theorem fl160x9 : fldOf Tryz.prog 160 9 = some (9, 1) := by kernel_rfl
@[go_sem] theorem ff160x10 : fld1 Tryz.prog 160 10 = some 10 := by kernel_rfl
@[go_sem] theorem fl160x10 : fldOf Tryz.prog 160 10 = some (10, 1) := by kernel_rfl
@[go_sem] theorem kd161 : kdOf Tryz.prog 161 = .fn := by kernel_rfl
@[go_sem] theorem ty161 : tyOf Tryz.prog 161 = some (false, 1) := by kernel_rfl
@[go_sem] theorem in161 : infoOf Tryz.prog 161 = some (1, 8) := by kernel_rfl
@[go_sem] theorem ct161 : cutTy Tryz.prog 161 = false := by kernel_rfl
@[go_sem] theorem so161 : solid Tryz.prog 161 = true := by kernel_rfl
@[go_sem] theorem ze161 : zeroV Tryz.prog 161 = some (.t .nilf) := by kernel_rfl
@[go_sem] theorem kd162 : kdOf Tryz.prog 162 = .fn := by kernel_rfl
@[go_sem] theorem ty162 : tyOf Tryz.prog 162 = some (false, 1) := by kernel_rfl
@[go_sem] theorem in162 : infoOf Tryz.prog 162 = some (1, 8) := by kernel_rfl
@[go_sem] theorem ct162 : cutTy Tryz.prog 162 = false := by kernel_rfl
@[go_sem] theorem so162 : solid Tryz.prog 162 = true := by kernel_rfl
@[go_sem] theorem ze162 : zeroV Tryz.prog 162 = some (.t .nilf) := by kernel_rfl
@[go_sem] theorem kd163 : kdOf Tryz.prog 163 = .fn := by kernel_rfl
@[go_sem] theorem ty163 : tyOf Tryz.prog 163 = some (false, 1) := by kernel_rfl
@[go_sem] theorem in163 : infoOf Tryz.prog 163 = some (1, 8) := by kernel_rfl
@[go_sem] theorem ct163 : cutTy Tryz.prog 163 = false := by kernel_rfl
@[go_sem] theorem so163 : solid Tryz.prog 163 = true := by kernel_rfl
@[go_sem] theorem ze163 : zeroV Tryz.prog 163 = some (.t .nilf) := by kernel_rfl
@[go_sem] theorem kd164 : kdOf Tryz.prog 164 = .fn := by kernel_rfl
@[go_sem] theorem ty164 : tyOf Tryz.prog 164 = some (false, 1) := by kernel_rfl
@[go_sem] theorem in164 : infoOf Tryz.prog 164 = some (1, 8) := by kernel_rfl
@[go_sem] theorem ct164 : cutTy Tryz.prog 164 = false := by kernel_rfl
@[go_sem] theorem so164 : solid Tryz.prog 164 = true := by kernel_rfl
@[go_sem] theorem ze164 : zeroV Tryz.prog 164 = some (.t .nilf) := by kernel_rfl
end Go.Sim
