/- A part of the proof of a law of module cupola: Types. It has no conditions of its own. -/
import Derived.Test.YtkfceeaokfdmfaaDoorSimE
import Derived.Test.YtkfceeaokfdmfaaDoorSimUu
import Derived.Test.YtkfceeaokfdmfaaDoorOrcs
import Derived.Test.YtkfceeaokfdmfaaDoorProg
import Derived.KernelRfl
set_option linter.all false
namespace Go.Sim
open Enc (enc)
open Go.Proofs
@[go_sem] theorem kd2 : kdOf Tryd.prog 2 = (.int .i64) := by kernel_rfl
@[go_sem] theorem ty2 : tyOf Tryd.prog 2 = some (false, 1) := by kernel_rfl
@[go_sem] theorem in2 : infoOf Tryd.prog 2 = some (1, 8) := by kernel_rfl
@[go_sem] theorem ze2 : zeroV Tryd.prog 2 = some (.t (.int .i64 0)) := by kernel_rfl
@[go_sem] theorem kd3 : kdOf Tryd.prog 3 = (.int .i64) := by kernel_rfl
@[go_sem] theorem ty3 : tyOf Tryd.prog 3 = some (false, 1) := by kernel_rfl
@[go_sem] theorem in3 : infoOf Tryd.prog 3 = some (1, 8) := by kernel_rfl
@[go_sem] theorem ze3 : zeroV Tryd.prog 3 = some (.t (.int .i64 0)) := by kernel_rfl
@[go_sem] theorem kd4 : kdOf Tryd.prog 4 = .bool := by kernel_rfl
@[go_sem] theorem ty4 : tyOf Tryd.prog 4 = some (false, 1) := by kernel_rfl
@[go_sem] theorem in4 : infoOf Tryd.prog 4 = some (1, 1) := by kernel_rfl
@[go_sem] theorem ze4 : zeroV Tryd.prog 4 = some (.t (.bool false)) := by kernel_rfl
@[go_sem] theorem kd5 : kdOf Tryd.prog 5 = (.int .u8) := by kernel_rfl
@[go_sem] theorem ty5 : tyOf Tryd.prog 5 = some (false, 1) := by kernel_rfl
@[go_sem] theorem in5 : infoOf Tryd.prog 5 = some (1, 1) := by kernel_rfl
@[go_sem] theorem ze5 : zeroV Tryd.prog 5 = some (.t (.int .u8 0)) := by kernel_rfl
@[go_sem] theorem kd9 : kdOf Tryd.prog 9 = .str := by kernel_rfl
@[go_sem] theorem ty9 : tyOf Tryd.prog 9 = some (false, 1) := by kernel_rfl
@[go_sem] theorem in9 : infoOf Tryd.prog 9 = some (1, 16) := by kernel_rfl
@[go_sem] theorem ze9 : zeroV Tryd.prog 9 = some (.t (.str ByteArray.empty)) := by kernel_rfl
@[go_sem] theorem kd22 : kdOf Tryd.prog 22 = (.int .u32) := by kernel_rfl
@[go_sem] theorem ty22 : tyOf Tryd.prog 22 = some (false, 1) := by kernel_rfl
@[go_sem] theorem in22 : infoOf Tryd.prog 22 = some (1, 4) := by kernel_rfl
@[go_sem] theorem ze22 : zeroV Tryd.prog 22 = some (.t (.int .u32 0)) := by kernel_rfl
@[go_sem] theorem kd23 : kdOf Tryd.prog 23 = (.sl 3) := by kernel_rfl
@[go_sem] theorem ty23 : tyOf Tryd.prog 23 = some (false, 1) := by kernel_rfl
@[go_sem] theorem in23 : infoOf Tryd.prog 23 = some (1, 24) := by kernel_rfl
@[go_sem] theorem ze23 : zeroV Tryd.prog 23 = some (.ex []) := by kernel_rfl
@[go_sem] theorem kd24 : kdOf Tryd.prog 24 = (.sl 23) := by kernel_rfl
@[go_sem] theorem ty24 : tyOf Tryd.prog 24 = some (false, 1) := by kernel_rfl
@[go_sem] theorem in24 : infoOf Tryd.prog 24 = some (1, 24) := by kernel_rfl
@[go_sem] theorem ze24 : zeroV Tryd.prog 24 = some (.ex []) := by kernel_rfl
@[go_sem] theorem kd26 : kdOf Tryd.prog 26 = .struct := by kernel_rfl
@[go_sem] theorem ty26 : tyOf Tryd.prog 26 = some (true, 3) := by kernel_rfl
@[go_sem] theorem in26 : infoOf Tryd.prog 26 = some (3, 56) := by kernel_rfl
@[go_sem] theorem ze26 : zeroV Tryd.prog 26 = some (.agg [.t (.int .u32 0), .ex [], .ex []]) := by kernel_rfl
@[go_sem] theorem fs26 : fldsOf Tryd.prog 26 = some [(0, 1), (1, 1), (2, 1)] := by kernel_rfl
@[go_sem] theorem ff26x0 : fld1 Tryd.prog 26 0 = some 0 := by kernel_rfl
@[go_sem] theorem fl26x0 : fldOf Tryd.prog 26 0 = some (0, 1) := by kernel_rfl
@[go_sem] theorem ff26x1 : fld1 Tryd.prog 26 1 = some 1 := by kernel_rfl
@[go_sem] theorem fl26x1 : fldOf Tryd.prog 26 1 = some (1, 1) := by kernel_rfl
@[go_sem] theorem ff26x2 : fld1 Tryd.prog 26 2 = some 2 := by kernel_rfl
@[go_sem] theorem fl26x2 : fldOf Tryd.prog 26 2 = some (2, 1) := by kernel_rfl
@[go_sem] theorem kd30 : kdOf Tryd.prog 30 = .struct := by kernel_rfl
@[go_sem] theorem ty30 : tyOf Tryd.prog 30 = some (true, 3) := by kernel_rfl
@[go_sem] theorem in30 : infoOf Tryd.prog 30 = some (3, 56) := by kernel_rfl
@[go_sem] theorem ze30 : zeroV Tryd.prog 30 = some (.agg [.t (.int .u32 0), .ex [], .ex []]) := by kernel_rfl
@[go_sem] theorem fs30 : fldsOf Tryd.prog 30 = some [(0, 1), (1, 1), (2, 1)] := by kernel_rfl
@[go_sem] theorem ff30x0 : fld1 Tryd.prog 30 0 = some 0 := by kernel_rfl
@[go_sem] theorem fl30x0 : fldOf Tryd.prog 30 0 = some (0, 1) := by kernel_rfl
@[go_sem] theorem ff30x1 : fld1 Tryd.prog 30 1 = some 1 := by kernel_rfl
@[go_sem] theorem fl30x1 : fldOf Tryd.prog 30 1 = some (1, 1) := by kernel_rfl
@[go_sem] theorem ff30x2 : fld1 Tryd.prog 30 2 = some 2 := by kernel_rfl
@[go_sem] theorem fl30x2 : fldOf Tryd.prog 30 2 = some (2, 1) := by kernel_rfl
@[go_sem] theorem kd37 : kdOf Tryd.prog 37 = (.int .u64) := by kernel_rfl
@[go_sem] theorem ty37 : tyOf Tryd.prog 37 = some (false, 1) := by kernel_rfl
@[go_sem] theorem in37 : infoOf Tryd.prog 37 = some (1, 8) := by kernel_rfl
@[go_sem] theorem ze37 : zeroV Tryd.prog 37 = some (.t (.int .u64 0)) := by kernel_rfl
@[go_sem] theorem kd49 : kdOf Tryd.prog 49 = .struct := by kernel_rfl
@[go_sem] theorem ty49 : tyOf Tryd.prog 49 = some (true, 6) := by kernel_rfl
@[go_sem] theorem in49 : infoOf Tryd.prog 49 = some (6, 48) := by kernel_rfl
@[go_sem] theorem ze49 : zeroV Tryd.prog 49 = some (.t (.agg [(.int .i64 0), (.int .i64 0), (.int .i64 0), (.int .i64 0), (.int .i64 0), (.int .i64 0)])) := by kernel_rfl
@[go_sem] theorem fs49 : fldsOf Tryd.prog 49 = some [(0, 1), (1, 1), (2, 1), (3, 1), (4, 1), (5, 1)] := by kernel_rfl
@[go_sem] theorem ff49x0 : fld1 Tryd.prog 49 0 = some 0 := by kernel_rfl
@[go_sem] theorem fl49x0 : fldOf Tryd.prog 49 0 = some (0, 1) := by kernel_rfl
@[go_sem] theorem ff49x1 : fld1 Tryd.prog 49 1 = some 1 := by kernel_rfl
@[go_sem] theorem fl49x1 : fldOf Tryd.prog 49 1 = some (1, 1) := by kernel_rfl
@[go_sem] theorem ff49x2 : fld1 Tryd.prog 49 2 = some 2 := by kernel_rfl
@[go_sem] theorem fl49x2 : fldOf Tryd.prog 49 2 = some (2, 1) := by kernel_rfl
@[go_sem] theorem ff49x3 : fld1 Tryd.prog 49 3 = some 3 := by kernel_rfl
@[go_sem] theorem fl49x3 : fldOf Tryd.prog 49 3 = some (3, 1) := by kernel_rfl
@[go_sem] theorem ff49x4 : fld1 Tryd.prog 49 4 = some 4 := by kernel_rfl
@[go_sem] theorem fl49x4 : fldOf Tryd.prog 49 4 = some (4, 1) := by kernel_rfl
@[go_sem] theorem ff49x5 : fld1 Tryd.prog 49 5 = some 5 := by kernel_rfl
@[go_sem] theorem fl49x5 : fldOf Tryd.prog 49 5 = some (5, 1) := by kernel_rfl
@[go_sem] theorem kd67 : kdOf Tryd.prog 67 = (.int .u64) := by kernel_rfl
@[go_sem] theorem ty67 : tyOf Tryd.prog 67 = some (false, 1) := by kernel_rfl
@[go_sem] theorem in67 : infoOf Tryd.prog 67 = some (1, 8) := by kernel_rfl
@[go_sem] theorem ze67 : zeroV Tryd.prog 67 = some (.t (.int .u64 0)) := by kernel_rfl
@[go_sem] theorem kd74 : kdOf Tryd.prog 74 = (.sl 9) := by kernel_rfl
@[go_sem] theorem ty74 : tyOf Tryd.prog 74 = some (false, 1) := by kernel_rfl
@[go_sem] theorem in74 : infoOf Tryd.prog 74 = some (1, 24) := by kernel_rfl
@[go_sem] theorem ze74 : zeroV Tryd.prog 74 = some (.ex []) := by kernel_rfl
@[go_sem] theorem kd77 : kdOf Tryd.prog 77 = .other := by kernel_rfl
@[go_sem] theorem ty77 : tyOf Tryd.prog 77 = some (false, 1) := by kernel_rfl
@[go_sem] theorem in77 : infoOf Tryd.prog 77 = some (1, 16) := by kernel_rfl
@[go_sem] theorem ze77 : zeroV Tryd.prog 77 = some (.t .nili) := by kernel_rfl
@[go_sem] theorem kd91 : kdOf Tryd.prog 91 = (.sl 2) := by kernel_rfl
@[go_sem] theorem ty91 : tyOf Tryd.prog 91 = some (false, 1) := by kernel_rfl
@[go_sem] theorem in91 : infoOf Tryd.prog 91 = some (1, 24) := by kernel_rfl
@[go_sem] theorem ze91 : zeroV Tryd.prog 91 = some (.ex []) := by kernel_rfl
@[go_sem] theorem kd92 : kdOf Tryd.prog 92 = (.sl 98) := by kernel_rfl
@[go_sem] theorem ty92 : tyOf Tryd.prog 92 = some (false, 1) := by kernel_rfl
@[go_sem] theorem in92 : infoOf Tryd.prog 92 = some (1, 24) := by kernel_rfl
@[go_sem] theorem ze92 : zeroV Tryd.prog 92 = some (.ex []) := by kernel_rfl
@[go_sem] theorem kd94 : kdOf Tryd.prog 94 = .struct := by kernel_rfl
@[go_sem] theorem ty94 : tyOf Tryd.prog 94 = some (true, 2) := by kernel_rfl
@[go_sem] theorem in94 : infoOf Tryd.prog 94 = some (2, 48) := by kernel_rfl
@[go_sem] theorem ze94 : zeroV Tryd.prog 94 = some (.agg [.ex [], .ex []]) := by kernel_rfl
@[go_sem] theorem fs94 : fldsOf Tryd.prog 94 = some [(0, 1), (1, 1)] := by kernel_rfl
@[go_sem] theorem ff94x0 : fld1 Tryd.prog 94 0 = some 0 := by kernel_rfl
@[go_sem] theorem fl94x0 : fldOf Tryd.prog 94 0 = some (0, 1) := by kernel_rfl
@[go_sem] theorem ff94x1 : fld1 Tryd.prog 94 1 = some 1 := by kernel_rfl
@[go_sem] theorem fl94x1 : fldOf Tryd.prog 94 1 = some (1, 1) := by kernel_rfl
@[go_sem] theorem kd95 : kdOf Tryd.prog 95 = (.int .i64) := by kernel_rfl
@[go_sem] theorem ty95 : tyOf Tryd.prog 95 = some (false, 1) := by kernel_rfl
@[go_sem] theorem in95 : infoOf Tryd.prog 95 = some (1, 8) := by kernel_rfl
@[go_sem] theorem ze95 : zeroV Tryd.prog 95 = some (.t (.int .i64 0)) := by kernel_rfl
@[go_sem] theorem kd98 : kdOf Tryd.prog 98 = (.sl 49) := by kernel_rfl
@[go_sem] theorem ty98 : tyOf Tryd.prog 98 = some (false, 1) := by kernel_rfl
@[go_sem] theorem in98 : infoOf Tryd.prog 98 = some (1, 24) := by kernel_rfl
@[go_sem] theorem ze98 : zeroV Tryd.prog 98 = some (.ex []) := by kernel_rfl
@[go_sem] theorem kd100 : kdOf Tryd.prog 100 = .ptr := by kernel_rfl
@[go_sem] theorem ty100 : tyOf Tryd.prog 100 = some (false, 1) := by kernel_rfl
@[go_sem] theorem in100 : infoOf Tryd.prog 100 = some (1, 8) := by kernel_rfl
@[go_sem] theorem ze100 : zeroV Tryd.prog 100 = some (.t .nilp) := by kernel_rfl
@[go_sem] theorem kd101 : kdOf Tryd.prog 101 = (.arr 5 100) := by kernel_rfl
@[go_sem] theorem ty101 : tyOf Tryd.prog 101 = some (true, 5) := by kernel_rfl
@[go_sem] theorem in101 : infoOf Tryd.prog 101 = some (5, 40) := by kernel_rfl
@[go_sem] theorem ze101 : zeroV Tryd.prog 101 = some (.t (.agg [.nilp, .nilp, .nilp, .nilp, .nilp])) := by kernel_rfl
@[go_sem] theorem kd103 : kdOf Tryd.prog 103 = .ptr := by kernel_rfl
@[go_sem] theorem ty103 : tyOf Tryd.prog 103 = some (false, 1) := by kernel_rfl
@[go_sem] theorem in103 : infoOf Tryd.prog 103 = some (1, 8) := by kernel_rfl
@[go_sem] theorem ze103 : zeroV Tryd.prog 103 = some (.t .nilp) := by kernel_rfl
@[go_sem] theorem kd120 : kdOf Tryd.prog 120 = .fn := by kernel_rfl
@[go_sem] theorem ty120 : tyOf Tryd.prog 120 = some (false, 1) := by kernel_rfl
@[go_sem] theorem in120 : infoOf Tryd.prog 120 = some (1, 8) := by kernel_rfl
@[go_sem] theorem ze120 : zeroV Tryd.prog 120 = some (.t .nilf) := by kernel_rfl
@[go_sem] theorem kd124 : kdOf Tryd.prog 124 = (.sl 5) := by kernel_rfl
@[go_sem] theorem ty124 : tyOf Tryd.prog 124 = some (false, 1) := by kernel_rfl
@[go_sem] theorem in124 : infoOf Tryd.prog 124 = some (1, 24) := by kernel_rfl
@[go_sem] theorem ze124 : zeroV Tryd.prog 124 = some (.ex []) := by kernel_rfl
@[go_sem] theorem kd129 : kdOf Tryd.prog 129 = .ptr := by kernel_rfl
@[go_sem] theorem ty129 : tyOf Tryd.prog 129 = some (false, 1) := by kernel_rfl
@[go_sem] theorem in129 : infoOf Tryd.prog 129 = some (1, 8) := by kernel_rfl
@[go_sem] theorem ze129 : zeroV Tryd.prog 129 = some (.t .nilp) := by kernel_rfl
@[go_sem] theorem kd134 : kdOf Tryd.prog 134 = .struct := by kernel_rfl
@[go_sem] theorem ty134 : tyOf Tryd.prog 134 = some (true, 2) := by kernel_rfl
@[go_sem] theorem in134 : infoOf Tryd.prog 134 = some (2, 24) := by kernel_rfl
@[go_sem] theorem ze134 : zeroV Tryd.prog 134 = some (.t (.agg [(.str ByteArray.empty), (.int .i64 0)])) := by kernel_rfl
@[go_sem] theorem fs134 : fldsOf Tryd.prog 134 = some [(0, 1), (1, 1)] := by kernel_rfl
@[go_sem] theorem ff134x0 : fld1 Tryd.prog 134 0 = some 0 := by kernel_rfl
@[go_sem] theorem fl134x0 : fldOf Tryd.prog 134 0 = some (0, 1) := by kernel_rfl
@[go_sem] theorem ff134x1 : fld1 Tryd.prog 134 1 = some 1 := by kernel_rfl
@[go_sem] theorem fl134x1 : fldOf Tryd.prog 134 1 = some (1, 1) := by kernel_rfl
@[go_sem] theorem kd150 : kdOf Tryd.prog 150 = .struct := by kernel_rfl
@[go_sem] theorem ty150 : tyOf Tryd.prog 150 = some (true, 2) := by kernel_rfl
@[go_sem] theorem in150 : infoOf Tryd.prog 150 = some (2, 32) := by kernel_rfl
@[go_sem] theorem ze150 : zeroV Tryd.prog 150 = some (.agg [.t .nilp, .ex []]) := by kernel_rfl
@[go_sem] theorem fs150 : fldsOf Tryd.prog 150 = some [(0, 1), (1, 1)] := by kernel_rfl
@[go_sem] theorem ff150x0 : fld1 Tryd.prog 150 0 = some 0 := by kernel_rfl
@[go_sem] theorem fl150x0 : fldOf Tryd.prog 150 0 = some (0, 1) := by kernel_rfl
@[go_sem] theorem ff150x1 : fld1 Tryd.prog 150 1 = some 1 := by kernel_rfl
@[go_sem] theorem fl150x1 : fldOf Tryd.prog 150 1 = some (1, 1) := by kernel_rfl
@[go_sem] theorem kd167 : kdOf Tryd.prog 167 = (.sl 134) := by kernel_rfl
@[go_sem] theorem ty167 : tyOf Tryd.prog 167 = some (false, 1) := by kernel_rfl
@[go_sem] theorem in167 : infoOf Tryd.prog 167 = some (1, 24) := by kernel_rfl
@[go_sem] theorem ze167 : zeroV Tryd.prog 167 = some (.ex []) := by kernel_rfl
@[go_sem] theorem kd182 : kdOf Tryd.prog 182 = .struct := by kernel_rfl
@[go_sem] theorem ty182 : tyOf Tryd.prog 182 = some (true, 4) := by kernel_rfl
@[go_sem] theorem in182 : infoOf Tryd.prog 182 = some (4, 32) := by kernel_rfl
@[go_sem] theorem ze182 : zeroV Tryd.prog 182 = some (.t (.agg [(.int .i64 0), (.int .i64 0), (.int .i64 0), (.int .i64 0)])) := by kernel_rfl
@[go_sem] theorem fs182 : fldsOf Tryd.prog 182 = some [(0, 1), (1, 1), (2, 1), (3, 1)] := by kernel_rfl
@[go_sem] theorem ff182x0 : fld1 Tryd.prog 182 0 = some 0 := by kernel_rfl
@[go_sem] theorem fl182x0 : fldOf Tryd.prog 182 0 = some (0, 1) := by kernel_rfl
@[go_sem] theorem ff182x1 : fld1 Tryd.prog 182 1 = some 1 := by kernel_rfl
@[go_sem] theorem fl182x1 : fldOf Tryd.prog 182 1 = some (1, 1) := by kernel_rfl
@[go_sem] theorem ff182x2 : fld1 Tryd.prog 182 2 = some 2 := by kernel_rfl
@[go_sem] theorem fl182x2 : fldOf Tryd.prog 182 2 = some (2, 1) := by kernel_rfl
@[go_sem] theorem ff182x3 : fld1 Tryd.prog 182 3 = some 3 := by kernel_rfl
@[go_sem] theorem fl182x3 : fldOf Tryd.prog 182 3 = some (3, 1) := by kernel_rfl
@[go_sem] theorem kd183 : kdOf Tryd.prog 183 = (.sl 182) := by kernel_rfl
@[go_sem] theorem ty183 : tyOf Tryd.prog 183 = some (false, 1) := by kernel_rfl
@[go_sem] theorem in183 : infoOf Tryd.prog 183 = some (1, 24) := by kernel_rfl
@[go_sem] theorem ze183 : zeroV Tryd.prog 183 = some (.ex []) := by kernel_rfl
end Go.Sim
