/- Part: FlatHz -/
import Derived.Test.YtoaboplnnhifpaaGreatFlatF
import Derived.Test.YtoaboplnnhifpaaGreatFlatS2
set_option linter.all false
set_option maxRecDepth 100000
namespace Go.Sim
open Enc (enc)
open Go.Proofs
abbrev U8 := BitVec 8
instance : Enc U8 := ⟨fun b => .int .u8 (b.toNat : Int), 0#8, 1, by decide, fun _ => rfl⟩
instance : One U8 := ⟨rfl, fun _ => rfl, fun _ => rfl⟩
@[go_sem] theorem enc_u8 (b : U8) : (enc b : T) = .int .u8 (b.toNat : Int) := rfl
theorem sub_lenF : ∀ {m l : List Nat}, m.Nodup -> (∀ a ∈ m, a ∈ l) -> m.length <= l.length
  | [], _, _, _ => by simp
  | a :: m, l, hd, hs => by
    have hd := List.nodup_cons.1 hd
    have ha := hs a (by simp)
    have := sub_lenF (m := m) (l := l.erase a) hd.2 (fun b hb => (List.mem_erase_of_ne (fun e : b = a => hd.1 (by rw [← e]; exact hb))).2 (hs b (by simp [hb])))
    rw [List.length_erase_of_mem ha] at this
    have := List.length_pos_of_mem ha
    simp only [List.length_cons]
    omega
theorem nodup_lenF {n : Nat} {l : List Nat} (hd : l.Nodup) (hl : ∀ a ∈ l, a < n) : l.length <= n := by
  have := sub_lenF (l := List.range n) hd (fun a ha => List.mem_range.2 (hl a ha))
  rwa [List.length_range] at this
theorem bd_inv {n : Int} {x : Ex} {init : List Int} {h : List Nat} {s : Fs} (W : WfE n x) (hk : init.length <= 100) (I : FInv x init h s) : BdS x init s := by
  have hn := W.n
  have hl := nodup_lenF I.nd (fun a ha => (I.mem a ha).1)
  refine ⟨hn, hk, I.ll, I.lf, fun l hm => ?_⟩
  obtain ⟨loc, hloc, rfl⟩ := List.mem_iff_getElem.1 hm
  rw [gd_get hloc, I.rows loc (by rw [← I.ll]; exact hloc), nats_len]
  have := List.length_filter_le (wrQ x loc) h
  omega
end Go.Sim
