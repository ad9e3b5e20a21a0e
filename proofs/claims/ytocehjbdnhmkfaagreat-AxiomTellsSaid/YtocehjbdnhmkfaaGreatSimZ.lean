/- A part of the proof of a law of module cupola: SimZ. It has no conditions of its own. -/
import Derived.Test.YtocehjbdnhmkfaaGreatSimY
set_option linter.all false
/-! What is proved of a function, tied to the model. -/
namespace Go.Sim

theorem Fun.calls {P : Program} (hm : P.follows .mixedOrders = true) {f : FuncId} {ts : List T} {x : T} (h : Fun P f ts (.t x)) {w : World} {S : Cells} {us : List Value} (hS : ∀ b j, S b j → b < w.heap.size) (hl : ts.length = us.length)
    (hv : ∀ i (hi : i < ts.length) (hu : i < us.length), RT w S ts[i] us[i]) :
    Calls P f us.toArray w fun e w' => ∃ v S', e = .returned v ∧ RT w' S' x v ∧ w'.os = w.os ∧ w'.tape = w.tape ∧ w'.output = w.output ∧ w.heap.size ≤ w'.heap.size ∧ ∀ k, k < w.heap.size → w'.heap[k]? = w.heap[k]? := by
  obtain ⟨k, v, H, h1, h2⟩ := h
  obtain ⟨_, hc⟩ := run_ok hm k f _ _ v H h1
  refine (hc w S [] us (Rel.none hS) (by simpa using hl) (fun i hi hu => by rw [List.getElem_map]; exact .t _ _ (hv i (by simpa using hi) hu))).mono ?_
  rintro e w' ⟨u, S', β', rfl, hE, hR, hrv⟩
  obtain ⟨S2, β2, hE2, hR2, hv2⟩ := import_any (Rel.none hS) hE hR hrv h2
  have hx : RT w' S2 x u := rv_t hv2
  exact ⟨u, S2, rfl, hx, hE.below⟩
end Go.Sim
