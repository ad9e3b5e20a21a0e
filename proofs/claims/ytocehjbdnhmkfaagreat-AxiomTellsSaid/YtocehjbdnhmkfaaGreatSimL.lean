/- A part of the proof of a law of module cupola: SimL. It has no conditions of its own. -/
import Derived.Test.YtocehjbdnhmkfaaGreatSimE
set_option linter.all false
/-! Loops; numbers; rows. -/
namespace Go.Sim

def Nxt {σ : Type} (I : σ → Env → Heap → Prop) (μ : σ → Nat) (s : σ) (e : Env) (H : Heap) : Prop := ∃ s', μ s' < μ s ∧ I s' e H

/-- A loop: what holds at its head. -/
theorem loop_inv {P : Program} {b : Code} {Q : Kx} {σ : Type} (I : σ → Env → Heap → Prop) (μ : σ → Nat)
    (h : ∀ s e H, I s e H → @C P ⟨b⟩ e H ⟨thenX (Nxt I μ s) Q.k⟩) (s : σ) (e : Env) (H : Heap) (h0 : I s e H) : @C P ⟨.loop b⟩ e H Q := by
  suffices ∀ n s e H, μ s < n → I s e H → @C P ⟨.loop b⟩ e H Q from this (μ s + 1) s e H (Nat.lt_succ_self _) h0
  intro n
  induction n with
  | zero => intro s e H hn; omega
  | succ n ih =>
    intro s e H hn hI
    show CW P (.loop b) e H Q.k
    rw [CW_loop]
    refine CW.mono (h s e H hI) ?_
    intro x e' H' hx
    cases x with
    | n => obtain ⟨s', h1, h2⟩ := hx; exact ih s' e' H' (by omega) h2
    | exit id => exact hx
    | ret => exact hx

theorem C_mono {P : Program} {c : Code} {e : Env} {H : Heap} {Q Q' : Kx} (h : @C P ⟨c⟩ e H Q) (hq : ∀ x e H, Q.k x e H → Q'.k x e H) : @C P ⟨c⟩ e H Q' := CW.mono h hq

theorem wrap_i64 {n : Int} (h0 : -9223372036854775808 ≤ n) (h1 : n ≤ 9223372036854775807) : IntKind.i64.wrap n = n := by
  unfold IntKind.wrap; simp [IntKind.bits, IntKind.signed]; omega
theorem wrap_u64 {n : Int} (h0 : 0 ≤ n) (h1 : n ≤ 18446744073709551615) : IntKind.u64.wrap n = n := by
  unfold IntKind.wrap; simp [IntKind.bits, IntKind.signed]; omega
theorem wrap_u32 {n : Int} (h0 : 0 ≤ n) (h1 : n ≤ 4294967295) : IntKind.u32.wrap n = n := by
  unfold IntKind.wrap; simp [IntKind.bits, IntKind.signed]; omega

theorem make_ok {P : Program} {H : Heap} {e sz by_ n : Nat} {z : V} (hi : infoOf P e = some (sz, by_)) (hz : zeroV P e = some z) (h1 : z.cells.length = sz) (h2 : z.storable = true) (h3 : 0 < sz) (h4 : 0 < by_) (hn : n * by_ ≤ 70368744177664) :
    makeV P H (.sl e) (n : Int) (n : Int) = some ⟨.ref H.length n, H ++ [⟨List.replicate n z, sz, false⟩], .none⟩ := by
  simp only [makeV, hi, hz, Option.bind_some]
  rw [if_pos ⟨by omega, by omega, by simpa [roomOk] using hn, h1, h2, h3, h4⟩]
  simp
theorem lit_nil {P : Program} {e : Env} {H : Heap} {t el sz by_ : Nat} {z : V} {z' : T} (hk : kdOf P t = .sl el) (hi : infoOf P el = some (sz, by_)) (hz : zeroV P el = some z) (hz' : toT H depth z = some z') (h1 : z'.cells.length = sz) (h3 : 0 < sz) (h4 : 0 < by_) :
    opRun P (.buildSlice t 0 #[]) e H = some ⟨.ex [], H, .none⟩ := by
  show (match kdOf P t with | .sl el => _ | _ => none) = _
  rw [hk]
  simp only [evParts, hi, hz, Option.bind_some, hz']
  rw [if_pos ⟨by omega, h1, h3, h4, rfl⟩]
  rfl
@[go_sem] theorem cellsV_int (k n) : (V.t (.int k n)).cells = [V.t (.int k n)] := rfl
@[go_sem] theorem cellsV_bool (k) : (V.t (.bool k)).cells = [V.t (.bool k)] := rfl
@[go_sem] theorem cellsV_str (k) : (V.t (.str k)).cells = [V.t (.str k)] := rfl
@[go_sem] theorem cellsV_sl (k) : (V.t (.sl k)).cells = [V.t (.sl k)] := rfl
@[go_sem] theorem cellsV_ex (k) : (V.ex k).cells = [V.ex k] := rfl
@[go_sem] theorem cellsV_ref (k n) : (V.ref k n).cells = [V.ref k n] := rfl
@[go_sem] theorem cellsT_int (k n) : (T.int k n).cells = [T.int k n] := rfl
@[go_sem] theorem cellsT_bool (k) : (T.bool k).cells = [T.bool k] := rfl
@[go_sem] theorem cellsT_str (k) : (T.str k).cells = [T.str k] := rfl
@[go_sem] theorem cellsT_sl (k) : (T.sl k).cells = [T.sl k] := rfl
@[go_sem] theorem cellsT_agg (k) : (T.agg k).cells = k := rfl
@[go_sem] theorem stor_int (k n) : (V.t (.int k n)).storable = true := rfl
@[go_sem] theorem stor_bool (k) : (V.t (.bool k)).storable = true := rfl
@[go_sem] theorem stor_str (k) : (V.t (.str k)).storable = true := rfl
@[go_sem] theorem stor_sl (k) : (V.t (.sl k)).storable = true := rfl
@[go_sem] theorem stor_ex (k) : (V.ex k).storable = true := rfl
@[go_sem] theorem stor_ref (k n) : (V.ref k n).storable = true := rfl

/-- One place of a row of one-celled elements, read and stored. -/
theorem load_ref {H : Heap} {id n i : Nat} {o : Obj} {v : V} (h : H[id]? = some o) (hn : o.el.length = n) (hi : o.el[i]? = some v) (hv : v.cells = [v]) :
    loadV H (some (false, 1)) (.ptr id n i 0) = some ⟨v, H, .load id⟩ := by
  simp [loadV, cur, h, hn, hi, rdV, hv]
theorem load_tp {H : Heap} {xs : List T} {i : Nat} {x : T} (hi : xs[i]? = some x) (hx : x.cells = [x]) (hx' : (V.t x).cells = [V.t x]) :
    loadV H (some (false, 1)) (.tp xs i 0) = some ⟨.t x, H, .none⟩ := by
  simp [loadV, hi, rdV, hx']
theorem store_ref {H : Heap} {id n i : Nat} {o : Obj} {v u : V} (h : H[id]? = some o) (hn : o.el.length = n) (hi : o.el[i]? = some v) (he : o.esz = 1) (hs : o.st = false) (hu : u.cells = [u]) (hu' : u.storable = true) :
    storeV H (some (false, 1)) (.ptr id n i 0) u = some ⟨.dead, H.set id { o with el := o.el.set i u }, .wild⟩ := by
  simp [storeV, cur, h, hn, hi, he, hs, hu, hu', wrV]
theorem ix_sl {H : Heap} {e sz : Nat} {xs : List T} {i : Nat} {x : T} (h : xs[i]? = some x) (h1 : x.cells.length = sz) (hp : 0 < sz) : indexV H (.sl e) sz (.t (.sl xs)) (i : Int) = some (.tp xs i 0) := by
  simp [indexV, h, h1, hp]
theorem ix_ex {H : Heap} {e sz : Nat} {xs : List T} {i : Nat} {x : T} (h : xs[i]? = some x) (h1 : x.cells.length = sz) (hp : 0 < sz) : indexV H (.sl e) sz (.ex xs) (i : Int) = some (.tp xs i 0) := by
  simp [indexV, h, h1, hp]
theorem ix_ref {H : Heap} {e sz id n : Nat} {o : Obj} {i : Nat} (h : H[id]? = some o) (hn : o.el.length = n) (h1 : i < n) (hs : o.esz = sz) (hp : 0 < sz) : indexV H (.sl e) sz (.ref id n) (i : Int) = some (.ptr id n i 0) := by
  have : (i : Int) < n := by omega
  simp [indexV, cur, h, hn, h1, hs, hp]

end Go.Sim
namespace Go.Sim
/-- A loop that counts up: what holds at its head when i rounds are done. -/
theorem loop_up {P : Program} {b : Code} {Q : Kx} {n : Nat} (I : Nat → Env → Heap → Prop)
    (h : ∀ i e H, i ≤ n → I i e H → @C P ⟨b⟩ e H ⟨thenX (fun e' H' => i < n ∧ I (i + 1) e' H') Q.k⟩) (e : Env) (H : Heap) (h0 : I 0 e H) : @C P ⟨.loop b⟩ e H Q := by
  refine loop_inv (fun i e H => i ≤ n ∧ I i e H) (fun i => n - i) ?_ 0 e H ⟨Nat.zero_le _, h0⟩
  rintro i e H ⟨hi, hI⟩
  refine CW.mono (h i e H hi hI) ?_
  intro x e' H' hx
  cases x with
  | n => exact ⟨i + 1, by have := hx.1; show n - (i + 1) < n - i; omega, by have := hx.1; omega, hx.2⟩
  | exit id => exact hx
  | ret => exact hx
end Go.Sim
namespace Go.Sim
theorem e_loop {P : Program} {b : Code} {e : Env} {H : Heap} {Q : Kx} : @C P ⟨.loop b⟩ e H Q = @C P ⟨b⟩ e H ⟨thenX (fun e' H' => @C P ⟨.loop b⟩ e' H' Q) Q.k⟩ := propext CW_loop
end Go.Sim
