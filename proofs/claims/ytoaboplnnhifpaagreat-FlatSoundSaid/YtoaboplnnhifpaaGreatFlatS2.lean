/- A part of the proof of a law of module cupola: FlatS2. It has no conditions of its own. -/
import Derived.Test.YtoaboplnnhifpaaGreatFlatD
import Derived.Test.YtoaboplnnhifpaaGreatPureL
set_option linter.all false
namespace Go.Sim
open Enc (enc)
open Go.Proofs
variable {n : Int} {x : Ex} {init : List Int} {h : List Nat} {s : Fs}


theorem ob_time (W : WfE n x) (hn : n = init.length) (I : FInv x init h s) (F : Full x h) (hI : internalB x s.f (coS x s) = true) {a b : Nat} (hob : has (obR x s.f (coS x s)) a b = true) : h.idxOf a < h.idxOf b := by
  have h32 := W.n32'
  have K := full_way W hn I F
  have ahd : ∀ {a b : Nat}, has (aheadZ x) a b = true → h.idxOf a < h.idxOf b := fun {a b} hh => by
    have hl := has_lt hh
    rw [aheadZ_len] at hl
    exact (mem_take_idx I.nd (I.ah b (F b hl.2 (aheadZ_po W _ _ hh).2.2) a hh)).1
  rcases (h_ob W K).1 hob with ⟨hc, ht⟩ | ⟨hd, ma, mb⟩
  · rcases (h_com h32 K).1 hc with hc | hc | hc
    · obtain ⟨ha, hb, e, ka, kb, hl⟩ := rf_ok h32 K hc
      rcases I.rd b kb (F b hb (by simp [Mem, kb])) with ⟨v, e1, e2, _⟩ | ⟨e1, _⟩
      · rcases own_is W b with e3 | ⟨w, e3, h3, h4, h5, _⟩
        · omega
        · obtain rfl : w = a := by omega
          exact absurd ((W.po _ _).1 h5).2.2 ht
      · rcases mem_last I (i := b) (loc := (gd x.ev b).loc) with ⟨e2, _⟩ | ⟨v, e2, hv, kv, lv, hlt, _⟩
        · omega
        · obtain rfl : v = a := by omega
          exact hlt
    · exact ((h_coS W hn I).1 hc).2.2.2.2.2
    · obtain ⟨ha, hb, ka, kb, hl, hw⟩ := (h_fr h32 K).1 hc
      have hain := F a ha (by simp [Mem, ka])
      have hbin := F b hb (by simp [Mem, kb])
      rcases I.rd a ka hain with ⟨v, e1, e2, hno, _⟩ | ⟨e1, _⟩
      · rcases hw with hw | ⟨w, hw, hcw⟩
        · omega
        · obtain rfl : w = v := by omega
          have hcw := (h_coS W hn I).1 hcw
          rcases Nat.lt_or_ge (h.idxOf w) (h.idxOf a) with h1 | h1
          · exact absurd (take_idx_mem hcw.1 h1) hno
          · omega
      · rcases Nat.lt_trichotomy (h.idxOf a) (h.idxOf b) with h1 | h1 | h1
        · exact h1
        · have := idx_inj hain hbin h1
          subst this; omega
        · exfalso
          rcases mem_last I (i := a) (loc := (gd x.ev a).loc) with ⟨e2, hall⟩ | ⟨v, e2, hv, kv, lv, hlt, hall⟩
          · have := hall b hbin kb hl; omega
          · have := hall b hbin kb hl h1
            rcases hw with hw | ⟨w, hw, hcw⟩
            · omega
            · obtain rfl : w = v := by omega
              have := ((h_coS W hn I).1 hcw).2.2.2.2.2
              omega
  · have hsame := (sameR_iff.1 (is_pure W K hI)).2 a b
    have hall : has (orR (dobR x s.f (coS x s)) (orR (aobR x s.f) (bobR x (coS x s)))) a b = true := by
      rw [h_or (by simp only [go_sem]; omega) (by simp only [go_sem]), h_or (by simp only [go_sem]; omega) (by simp only [go_sem]), Bool.or_eq_true, Bool.or_eq_true, h_dob W K, h_aob W K, h_bob W K]
      rcases hd with hd | hd | hd
      · exact .inl ⟨hd, ma, mb⟩
      · exact .inr (.inl ⟨hd, ma, mb⟩)
      · exact .inr (.inr ⟨hd, ma, mb⟩)
    rw [hsame] at hall
    rcases (h_want W K (Nat.le_refl _)).1 hall with hh | ⟨hb, w, e, _, htw, hm⟩
    · exact ahd hh
    · have hw : w < x.ev.length ∧ (gd x.ev w).kind = 2 ∧ (gd x.ev b).kind = 1 := by
        rcases K.src b hb with ⟨_, e2⟩ | ⟨kb, e2 | ⟨w', e2, h1, h2, _⟩⟩
        · omega
        · omega
        · obtain rfl : w' = w := by omega
          exact ⟨h1, h2, kb⟩
      obtain ⟨hwl, kw, kb⟩ := hw
      have hbin := F b hb mb
      rcases I.rd b kb hbin with ⟨v, e1, e2, _, hneed, hsh, _⟩ | ⟨e1, _⟩
      · obtain rfl : v = w := by omega
        rcases hm with hm | ⟨rfl, h1, h2⟩
        · exact (mem_take_idx I.nd (hneed a hm)).1
        · have := (shut_iff W hwl hb).2 ⟨h1, h2⟩
          rw [hsh] at this; cases this
      · have hlt : h.idxOf w < h.idxOf b := by
          rcases mem_last I (i := b) (loc := (gd x.ev b).loc) with ⟨e2, _⟩ | ⟨v, e2, hv, kv, lv, hlt, _⟩
          · omega
          · obtain rfl : v = w := by omega
            exact hlt
        rcases hm with hm | ⟨rfl, _⟩
        · have : has (aheadZ x) a w = true := by
            rw [h_aheadZ W]
            rcases hm with hm | hm
            · exact ⟨.inl (.inl hm), ma, by simp [Mem, kw]⟩
            · exact ⟨.inl (.inr (.inl hm)), ma, by simp [Mem, kw]⟩
          have := ahd this
          omega
        · exact hlt
theorem flat_sound (W : WfE n x) (hn : n = init.length) (r : FRun x init h s) (hf : finalB x s = true) (hI : internalB x s.f (coS x s) = true) : externalB x s.f (coS x s) = true := by
  have I := run_inv W hn r
  have F := final_full W I hf
  refine acy_iff.2 fun i w => ?_
  have key : ∀ a b, Way (obR x s.f (coS x s)) a b → h.idxOf a < h.idxOf b := by
    intro a b w
    induction w with
    | single h1 => exact ob_time W hn I F hI h1
    | tail _ h2 ih => have := ob_time W hn I F hI h2; omega
  have := key i i w
  omega
end Go.Sim
