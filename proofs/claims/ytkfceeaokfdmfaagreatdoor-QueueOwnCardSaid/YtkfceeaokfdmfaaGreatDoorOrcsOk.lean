/- A part of the proof of a law of module cupola: OrcsOkA. It has no conditions of its own. -/
import Derived.Test.YtkfceeaokfdmfaaGreatDoorSimN
import Derived.Test.YtkfceeaokfdmfaaGreatDoorEv
import Derived.Test.YtkfceeaokfdmfaaGreatDoorOrcs
import Derived.Test.YtkfceeaokfdmfaaGreatDoorKStr
import Derived.Test.YtkfceeaokfdmfaaGreatDoorKLayB
import Derived.Test.YtkfceeaokfdmfaaGreatDoorKLayC
set_option linter.all false
namespace Go.Sim
open Enc (enc)
variable [Base]
open Go.Proofs Go.RowKit

def TabOk : Prop := ∀ (w : World) (S : Cells), Stay Base.w Base.S w S → Go.Lib.TabIs Tryz.prog w "internal/strconv.uint64pow10" .u64 Go.Lib.pow10Tab

theorem isFn {f : FuncId} {fn : Func} (h : Tryz.prog.funcs[f]? = some fn) (hb : fn.body.isSome = true) (hn : (fn.name == "runtime.NumGoroutine") = false) :
    ∃ fn, Tryz.prog.funcs[f]? = some fn ∧ fn.body.isSome = true ∧ (fn.name == "runtime.NumGoroutine") = false := ⟨fn, h, hb, hn⟩
theorem inRB_iff {n : Int} (h : inRB n = true) : -9223372036854775808 ≤ n ∧ n ≤ 9223372036854775807 := by
  simpa [inRB] using h
theorem grown_back {w w' : World} {k : Nat} {os : Array Go.Obj} (h : w' = Sort.grow (w.drewN k) os) : w'.os = w.os ∧ w'.output = w.output ∧ w.heap.size ≤ w'.heap.size ∧ ∀ k, k < w.heap.size → w'.heap[k]? = w.heap[k]? := by
  subst h
  have e : ∀ k, (w.drewN k).heap = w.heap ∧ (w.drewN k).os = w.os ∧ (w.drewN k).output = w.output := by
    intro k
    induction k with
    | zero => rw [World.drewN_zero]; exact ⟨rfl, rfl, rfl⟩
    | succ k ih => exact ih
  obtain ⟨e1, e2, e3⟩ := e k
  refine ⟨e2, e3, ?_, fun j hj => ?_⟩
  · show w.heap.size ≤ ((w.drewN k).heap ++ os).size
    rw [e1, Array.size_append]; omega
  · show ((w.drewN k).heap ++ os)[j]? = _
    rw [e1, Array.getElem?_append_left hj]
theorem itoa_data (ht : TabOk) : DataOk Tryz.prog 40 itoaT := by
  intro ts x h
  refine ⟨isFn Tryz.func40 (by kernel_rfl) (by kernel_rfl), ?_⟩
  intro w S us hb hS hl hv
  unfold itoaT at h
  split at h
  · rename_i n
    split at h
    · rename_i hn
      simp only [Option.some.injEq] at h
      subst h
      match us, hl with
      | [u], _ =>
        have hu := hv 0 (by simp) (by simp)
        simp only [List.getElem_cons_zero] at hu
        cases hu
        refine (Any.strconv_Itoa Tryz.laysM171 n (inRB_iff hn).1 (inRB_iff hn).2 w (ht w S hb)).mono ?_
        rintro e w' ⟨rfl, k, os, hw⟩
        exact ⟨_, S, rfl, .str _, fun b j hs => .inl hs, grown_back hw⟩
    · cases h
  · cases h
theorem fuint_data (ht : TabOk) : DataOk Tryz.prog 26 fuintT := by
  intro ts x h
  refine ⟨isFn Tryz.func26 (by kernel_rfl) (by kernel_rfl), ?_⟩
  intro w S us hb hS hl hv
  unfold fuintT at h
  split at h
  · rename_i n b
    split at h
    · rename_i hn
      simp only [Option.some.injEq] at h
      subst h
      match us, hl with
      | [u, v], _ =>
        have hu := hv 0 (by simp) (by simp)
        have hu2 := hv 1 (by simp) (by simp)
        simp only [List.getElem_cons_zero, List.getElem_cons_succ] at hu hu2
        cases hu; cases hu2
        obtain ⟨rfl, h0, h1⟩ := hn
        obtain ⟨m, rfl⟩ := Int.eq_ofNat_of_zero_le h0
        refine (Tryz.fmtU m (by omega) w (ht w S hb)).mono ?_
        rintro e w' ⟨rfl, k, os, hw⟩
        refine ⟨_, S, rfl, ?_, fun b j hs => .inl hs, grown_back hw⟩
        have : figB (m : Int) = ⟨(Go.Lib.decDigits m).toArray⟩ := by
          unfold figB; rw [Go.Lib.itoa_nonneg]
        rw [this]; exact .str _
    · cases h
  · cases h
theorem strsT_eq : ∀ {xs : List T} {l : List ByteArray}, strsT xs = some l → xs = l.map enc
  | [], l, h => by simp [strsT] at h; subst h; rfl
  | x :: r, l, h => by
    unfold strsT at h
    split at h
    · rename_i e; cases e
    · rename_i n r' e
      cases e
      obtain ⟨l', h1, rfl⟩ := Option.map_eq_some_iff.1 h
      rw [strsT_eq h1]; rfl
    · cases h
theorem strs_of_rt {w : World} {S : Cells} (hS : ∀ b j, S b j → b < w.heap.size) {l : List ByteArray} {u : Value} (h : RT w S (.sl (l.map enc)) u) :
    (l = [] ∧ ∃ A c, u = .slice A 0 c) ∨ ∃ b o cap, u = .slice (some ⟨b, o, none⟩) l.length cap ∧ l.length ≤ cap ∧ b < w.heap.size ∧ ∀ (j : Nat) x, l[j]? = some x → w.cell? ⟨b, o + j, none⟩ = some (.string x) := by
  generalize hx : l.map enc = xs at h
  cases h with
  | sl0 A c => exact .inl ⟨by simpa using hx, A, c, rfl⟩
  | sl _ b o cap esz c hn hl hs hr =>
    subst hx
    by_cases h0 : l = []
    · subst h0; exact .inl ⟨rfl, _, _, rfl⟩
    · have hp : 0 < l.length := List.length_pos_iff.2 h0
      have hesz : esz = 1 := by
        have := hl 0 (by simpa using hp)
        simp only [List.getElem_map] at this
        exact this.symm
      subst hesz
      refine .inr ⟨b, o, cap, by simp, by simpa using hn, hS _ _ (hs 0 0 (by simpa using hp) (by omega)).1, fun j x hj => ?_⟩
      obtain ⟨hjl, rfl⟩ := List.getElem?_eq_some_iff.1 hj
      have h1 := (hs j 0 (by simpa using hjl) (by omega)).2
      have h2 := hr j (by simpa using hjl) 0 (by simp [enc, T.cells])
      simp only [List.getElem_map] at h2
      have h3 : RT w S (.str l[j]) (c j 0) := h2
      rw [show o + j * 1 + 0 = o + j by omega] at h1
      rw [h1]
      generalize c j 0 = u at h3 ⊢
      cases h3
      rfl
theorem join_data : DataOk Tryz.prog 41 joinT := by
  intro ts x h
  refine ⟨isFn Tryz.func41 (by kernel_rfl) (by kernel_rfl), ?_⟩
  intro w S us hb hS hl hv
  unfold joinT at h
  split at h
  · rename_i xs sep
    obtain ⟨l, h1, h2⟩ := Option.bind_eq_some_iff.1 h
    split at h2
    · rename_i hle
      simp only [Option.some.injEq] at h2
      subst h2
      have := strsT_eq h1
      subst this
      match us, hl with
      | [u, v], _ =>
        have hu := hv 0 (by simp) (by simp)
        have hu2 := hv 1 (by simp) (by simp)
        simp only [List.getElem_cons_zero, List.getElem_cons_succ] at hu hu2
        cases hu2
        rcases strs_of_rt hS hu with ⟨rfl, A, c, rfl⟩ | ⟨b, o, cap, rfl, hcap, hbk, hc⟩
        · refine (Any.strings_Join_none Tryz.lays156 Tryz.Builder_Extra_156 A c sep w).mono ?_
          rintro e w' ⟨rfl, rfl⟩
          exact ⟨_, S, rfl, .str _, fun b j hs => .inl hs, rfl, rfl, Nat.le_refl _, fun _ _ => rfl⟩
        · refine (Any.strings_Join Tryz.lays156 Tryz.Builder_Extra_156 b o cap l sep w hc hbk hle.1 hcap (by
            have := hle.2
            unfold joinB at this
            exact this)).mono ?_
          rintro e w' ⟨rfl, hB⟩
          exact ⟨_, S, rfl, .str _, fun b j hs => .inl hs, hB.os, hB.output, hB.size, hB.block⟩
    · cases h2
  · cases h
def ErrOk : Prop := ∀ (w : World) (S : Cells), Stay Base.w Base.S w S → (∃ tp p, w.cell? ⟨1, 0, none⟩ = some (.iface tp p)) ∧ ∃ tp p, w.cell? ⟨2, 0, none⟩ = some (.iface tp p)
theorem same_back (w : World) : w.os = w.os ∧ w.output = w.output ∧ w.heap.size ≤ w.heap.size ∧ ∀ k, k < w.heap.size → w.heap[k]? = w.heap[k]? := ⟨rfl, rfl, Nat.le_refl _, fun _ _ => rfl⟩
theorem below_back {w w' : World} (h : Below w.heap.size w w') : w'.os = w.os ∧ w'.output = w.output ∧ w.heap.size ≤ w'.heap.size ∧ ∀ k, k < w.heap.size → w'.heap[k]? = w.heap[k]? := ⟨h.os, h.output, h.size, h.block⟩
theorem rt_pair {w : World} {S : Cells} {x : T} {u v : Value} {ok : Bool} (h : RT w S x u) (hv : if ok then v = .nilIface else v.oneCell' = true) : RT w S (pairT x ok) (.tuple #[u, v]) := by
  refine RT.tup [x, _] [u, v] rfl fun i hi hu => ?_
  match i with
  | 0 => exact h
  | 1 =>
    cases ok
    · exact .opq _ hv
    · have : v = .nilIface := hv
      subst this; exact .nili
  | n + 2 => simp at hi; omega
theorem atoi_data (he : ErrOk) : DataOk Tryz.prog 46 atoiT := by
  intro ts x h
  refine ⟨isFn Tryz.func46 (by kernel_rfl) (by kernel_rfl), ?_⟩
  intro w S us hb hS hl hv
  unfold atoiT at h
  split at h
  · rename_i s
    split at h
    · rename_i hn
      simp only [Option.some.injEq] at h
      subst h
      match us, hl with
      | [u], _ =>
        have hu := hv 0 (by simp) (by simp)
        simp only [List.getElem_cons_zero] at hu
        cases hu
        obtain ⟨⟨t1, p1, e1⟩, t2, p2, e2⟩ := he w S hb
        cases ha : Go.Lib.atoiAll s.data.toList with
        | ok v =>
          refine (Any.strconv_Atoi_ok Tryz.laysC172 s (by omega) v ha w).mono ?_
          rintro e w' ⟨rfl, hw⟩
          refine ⟨_, S, rfl, rt_pair (v := .nilIface) ?_ ?_, fun b j hs => .inl hs, ?_⟩
          · unfold atoiN; rw [ha]; exact .int _ _
          · unfold atoiB; rw [ha]; rfl
          · rcases hw with rfl | ⟨t, rfl⟩
            · exact same_back _
            · exact below_back (Go.Lib.bytesWorld_below _ _ _)
        | «syntax» =>
          refine (Any.strconv_Atoi_syntax Tryz.laysC172 s (by omega) ha _ w e1 (.inr ⟨t1, p1, rfl⟩)).mono ?_
          rintro e w' ⟨N, rfl, _, _, hB⟩
          refine ⟨_, S, rfl, rt_pair ?_ ?_, fun b j hs => .inl hs, below_back hB⟩
          · unfold atoiN; rw [ha]; exact .int _ _
          · unfold atoiB; rw [ha]; rfl
        | range =>
          refine (Any.strconv_Atoi_range Tryz.laysC172 s (by omega) ha _ w e2 (.inr ⟨t2, p2, rfl⟩)).mono ?_
          rintro e w' ⟨N, rfl, _, _, hB⟩
          refine ⟨_, S, rfl, rt_pair ?_ ?_, fun b j hs => .inl hs, below_back hB⟩
          · unfold atoiN; rw [ha]; exact .int _ _
          · unfold atoiB; rw [ha]; rfl
    · cases h
  · cases h
theorem pu_data (he : ErrOk) : DataOk Tryz.prog 31 puT := by
  intro ts x h
  refine ⟨isFn Tryz.func31 (by kernel_rfl) (by kernel_rfl), ?_⟩
  intro w S us hb hS hl hv
  unfold puT at h
  split at h
  · rename_i s b z
    split at h
    · rename_i hn
      simp only [Option.some.injEq] at h
      subst h
      obtain ⟨rfl, rfl, hn⟩ := hn
      match us, hl with
      | [u, u2, u3], _ =>
        have hu := hv 0 (by simp) (by simp)
        have hu2 := hv 1 (by simp) (by simp)
        have hu3 := hv 2 (by simp) (by simp)
        simp only [List.getElem_cons_zero, List.getElem_cons_succ] at hu hu2 hu3
        cases hu; cases hu2; cases hu3
        obtain ⟨⟨t1, p1, e1⟩, t2, p2, e2⟩ := he w S hb
        cases ha : Go.Lib.parseUintB 32 s.data.toList with
        | ok v =>
          refine (Any.strconv_ParseUint_10_at32_ok Tryz.laysPu14 s (by omega) v ha w).mono ?_
          rintro e w' ⟨rfl, hw⟩
          refine ⟨_, S, rfl, rt_pair (v := .nilIface) ?_ ?_, fun b j hs => .inl hs, ?_⟩
          · unfold puN; rw [ha]; exact .int _ _
          · unfold puB; rw [ha]; rfl
          · rcases hw with rfl | rfl
            · exact same_back _
            · exact below_back (Go.Lib.bytesWorld_below _ _ _)
        | «syntax» =>
          refine (Any.strconv_ParseUint_10_at32_syntax Tryz.laysPu14 s (by omega) ha _ w e1 (.inr ⟨t1, p1, rfl⟩)).mono ?_
          rintro e w' ⟨N, rfl, _, _, hB⟩
          refine ⟨_, S, rfl, rt_pair ?_ ?_, fun b j hs => .inl hs, below_back hB⟩
          · unfold puN; rw [ha]; exact .int _ _
          · unfold puB; rw [ha]; rfl
        | range =>
          refine (Any.strconv_ParseUint_10_at32_range Tryz.laysPu14 s (by omega) ha _ w e2 (.inr ⟨t2, p2, rfl⟩)).mono ?_
          rintro e w' ⟨N, rfl, _, _, hB⟩
          refine ⟨_, S, rfl, rt_pair ?_ ?_, fun b j hs => .inl hs, below_back hB⟩
          · unfold puN; rw [ha]; exact .int _ _
          · unfold puB; rw [ha]; rfl
    · cases h
  · cases h
theorem index_data : DataOk Tryz.prog 60 indexT := by
  intro ts x h
  refine ⟨isFn Tryz.func60 (by kernel_rfl) (by kernel_rfl), ?_⟩
  intro w S us hb hS hl hv
  unfold indexT at h
  split at h
  · rename_i s sep
    split at h
    · rename_i hn
      simp only [Option.some.injEq] at h
      subst h
      match us, hl with
      | [u, u2], _ =>
        have hu := hv 0 (by simp) (by simp)
        have hu2 := hv 1 (by simp) (by simp)
        simp only [List.getElem_cons_zero, List.getElem_cons_succ] at hu hu2
        cases hu; cases hu2
        have := (Any.strings_Index_one Tryz.lays143 s (sep.get! 0) w)
        rw [← hn] at this
        refine this.mono ?_
        rintro e w' ⟨rfl, rfl⟩
        exact ⟨_, S, rfl, .int _ _, fun b j hs => .inl hs, same_back _⟩
    · cases h
  · cases h
theorem count_data : DataOk Tryz.prog 59 countT := by
  intro ts x h
  refine ⟨isFn Tryz.func59 (by kernel_rfl) (by kernel_rfl), ?_⟩
  intro w S us hb hS hl hv
  unfold countT at h
  split at h
  · rename_i s sep
    split at h
    · rename_i hn
      simp only [Option.some.injEq] at h
      subst h
      match us, hl with
      | [u, u2], _ =>
        have hu := hv 0 (by simp) (by simp)
        have hu2 := hv 1 (by simp) (by simp)
        simp only [List.getElem_cons_zero, List.getElem_cons_succ] at hu hu2
        cases hu; cases hu2
        have := (Any.strings_Count_one Tryz.lays138 s (sep.get! 0) w)
        rw [← hn] at this
        refine this.mono ?_
        rintro e w' ⟨rfl, rfl⟩
        exact ⟨_, S, rfl, .int _ _, fun b j hs => .inl hs, same_back _⟩
    · cases h
  · cases h
theorem trim_data : DataOk Tryz.prog 34 trimT := by
  intro ts x h
  refine ⟨isFn Tryz.func34 (by kernel_rfl) (by kernel_rfl), ?_⟩
  intro w S us hb hS hl hv
  unfold trimT at h
  split at h
  · rename_i s p
    split at h
    · rename_i hn
      simp only [Option.some.injEq] at h
      subst h
      match us, hl with
      | [u, u2], _ =>
        have hu := hv 0 (by simp) (by simp)
        have hu2 := hv 1 (by simp) (by simp)
        simp only [List.getElem_cons_zero, List.getElem_cons_succ] at hu hu2
        cases hu; cases hu2
        refine (Any.strings_TrimSuffix Tryz.lays102 s p w (by omega)).mono ?_
        rintro e w' ⟨rfl, rfl⟩
        exact ⟨_, S, rfl, .str _, fun b j hs => .inl hs, same_back _⟩
    · cases h
  · cases h
theorem indexl_data : DataOk Tryz.prog 82 indexT := by
  intro ts x h
  refine ⟨isFn Tryz.func82 (by kernel_rfl) (by kernel_rfl), ?_⟩
  intro w S us hb hS hl hv
  unfold indexT at h
  split at h
  · rename_i s sep
    split at h
    · rename_i hn
      simp only [Option.some.injEq] at h
      subst h
      match us, hl with
      | [u, u2], _ =>
        have hu := hv 0 (by simp) (by simp)
        have hu2 := hv 1 (by simp) (by simp)
        simp only [List.getElem_cons_zero, List.getElem_cons_succ] at hu hu2
        cases hu; cases hu2
        have := (Any.stringslite_Index_one Tryz.lays219 s (sep.get! 0) w)
        rw [← hn] at this
        refine this.mono ?_
        rintro e w' ⟨rfl, rfl⟩
        exact ⟨_, S, rfl, .int _ _, fun b j hs => .inl hs, same_back _⟩
    · cases h
  · cases h
theorem orcOk (ht : TabOk) (he : ErrOk) : OrcOk Tryz.prog := by
  intro f args H v H' hf hr hd
  have hf' : f ∈ [26, 40, 41, 46, 31, 60, 59, 34, 82] := by simpa [Orc.has] using hf
  simp only [List.mem_cons, List.not_mem_nil, or_false] at hf'
  rcases hf' with rfl | rfl | rfl | rfl | rfl | rfl | rfl | rfl | rfl
  · exact data_ok (fuint_data ht) hr
  · exact data_ok (itoa_data ht) hr
  · exact data_ok join_data hr
  · exact data_ok (atoi_data he) hr
  · exact data_ok (pu_data he) hr
  · exact data_ok index_data hr
  · exact data_ok count_data hr
  · exact data_ok trim_data hr
  · exact data_ok indexl_data hr
end Go.Sim
