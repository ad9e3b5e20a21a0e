/- A part of the proof of a law of module cupola: SimU2. It has no conditions of its own. -/
import Derived.Test.YtocehjbdnhmkfaaGreatSimU
set_option linter.all false
/-! Objects of the heap, read and written; structs. -/
namespace Go.Sim
open Enc (enc)
/-- Of one cell. -/
class One (α : Type) [Enc α] : Prop where
  sz1 : Enc.sz α = 1
  cells1 : ∀ a : α, (V.t (enc a)).cells = [.t (enc a)]
  stor : ∀ a : α, (V.t (enc a)).storable = true
instance : One Int := ⟨rfl, fun _ => rfl, fun _ => rfl⟩
instance : One U32 := ⟨rfl, fun _ => rfl, fun _ => rfl⟩
instance : One Bool := ⟨rfl, fun _ => rfl, fun _ => rfl⟩
instance : One ByteArray := ⟨rfl, fun _ => rfl, fun _ => rfl⟩
instance {α : Type} [Enc α] : One (List α) := ⟨rfl, fun _ => rfl, fun _ => rfl⟩

section
variable {α : Type} [Enc α]
@[go_sem] theorem fold_u32 (l : List U32) (x : U32) : vs l ++ [V.t (.int .u32 (x.toNat : Int))] = vs (l ++ [x]) := by simp [vs, enc_u32]
@[go_sem] theorem fold_int (l : List Int) (x : Int) : vs l ++ [V.t (.int .i64 x)] = vs (l ++ [x]) := by simp [vs, enc_int]
@[go_sem] theorem fold_bool (l : List Bool) (x : Bool) : vs l ++ [V.t (.bool x)] = vs (l ++ [x]) := by simp [vs, enc_bool]
@[go_sem] theorem fold_str (l : List ByteArray) (x : ByteArray) : vs l ++ [V.t (.str x)] = vs (l ++ [x]) := by simp [vs, enc_str]
@[go_sem] theorem fold_enc (l : List α) (x : α) : vs l ++ [V.t (enc x)] = vs (l ++ [x]) := by simp [vs]
@[go_sem] theorem set_u32 (l : List U32) (i : Nat) (x : U32) : (vs l).set i (V.t (.int .u32 (x.toNat : Int))) = vs (l.set i x) := vs_set l i x
@[go_sem] theorem set_u320 (l : List U32) (i : Nat) : (vs l).set i (V.t (.int .u32 0)) = vs (l.set i 0#32) := vs_set l i 0#32
@[go_sem] theorem set_int (l : List Int) (i : Nat) (x : Int) : (vs l).set i (V.t (.int .i64 x)) = vs (l.set i x) := vs_set l i x
@[go_sem] theorem set_bool (l : List Bool) (i : Nat) (x : Bool) : (vs l).set i (V.t (.bool x)) = vs (l.set i x) := vs_set l i x
@[go_sem] theorem set_enc (l : List α) (i : Nat) (x : α) : (vs l).set i (V.t (enc x)) = vs (l.set i x) := vs_set l i x
theorem one_u32 (x : U32) : [V.t (.int .u32 (x.toNat : Int))] = vs [x] := rfl
theorem one_int (x : Int) : [V.t (.int .i64 x)] = vs [x] := rfl
theorem one_bool (x : Bool) : [V.t (.bool x)] = vs [x] := rfl
theorem one_enc (x : α) : [V.t (enc x)] = vs [x] := rfl
@[go_sem] theorem fits_int (k n) : fits 1 (.t (.int k n)) = true := rfl
@[go_sem] theorem fits_bool (b) : fits 1 (.t (.bool b)) = true := rfl
@[go_sem] theorem fits_str (b) : fits 1 (.t (.str b)) = true := rfl
@[go_sem] theorem fits_enc [One α] (a : α) : fits 1 (.t (enc a)) = true := by simp [fits, One.stor, One.cells1]
@[go_sem] theorem sz_one [One α] : Enc.sz α = 1 := One.sz1
@[go_sem] theorem cells_enc [One α] (a : α) : (V.t (enc a)).cells = [.t (enc a)] := One.cells1 a
@[go_sem] theorem stor_enc [One α] (a : α) : (V.t (enc a)).storable = true := One.stor a
theorem fits_vs [One α] (l : List α) : (vs l).all (fits 1) = true := by simp [vs, fits_enc]
@[go_sem] theorem map_enc_all [One α] (l : List α) : ((l.map enc).map V.t).all (fits 1) = true := by rw [map_t_enc]; exact fits_vs l

/-! Data that are rows -/
@[go_sem] theorem ix_enc1 [One α] {H : Heap} {e : Nat} {l : List α} {i : Int} (h0 : 0 ≤ i) (h1 : i < l.length) : indexV H (.sl e) 1 (.t (enc l)) i = some (.tp (l.map enc) i.toNat 0) := ix_enc One.sz1 h0 h1
@[go_sem] theorem ix_ex1 [One α] {H : Heap} {e : Nat} {l : List α} {i : Int} (h0 : 0 ≤ i) (h1 : i < l.length) : indexV H (.sl e) 1 (.ex (l.map enc)) i = some (.tp (l.map enc) i.toNat 0) := ix_enc1 (H := H) (e := e) (l := l) h0 h1
@[go_sem] theorem load_tp1 [One α] {H : Heap} {l : List α} {i : Nat} (h1 : i < l.length) : loadV H (some (false, 1)) (.tp (l.map enc) i 0) = some ⟨.t (enc (gd l i)), H, .none⟩ :=
  load_tp (by simp [gd_opt h1]) (by have := One.cells1 (gd l i); revert this; cases enc (gd l i) <;> simp [T.cells, V.cells]) (One.cells1 _)
theorem load_tpc {H : Heap} {l : List α} {i off sz : Nat} {a : Bool} (h1 : i < l.length) : loadV H (some (a, sz)) (.tp (l.map enc) i off) = (rdV (.t (enc (gd l i))) (Enc.sz α) off a sz).bind fun u => some ⟨u, H, .none⟩ := by
  simp [loadV, gd_opt h1, Enc.cells]
@[go_sem] theorem ix_arr_tp {H : Heap} {len e sz j off : Nat} {xs : List T} {i : Int} (h0 : 0 ≤ i) (h1 : i < len) (h2 : 0 < sz) : indexV H (.arr len e) sz (.tp xs j off) i = some (.tp xs j (off + i.toNat * sz)) := by
  simp [indexV, h0, h1, h2]
@[go_sem] theorem ix_arr_ptr {H : Heap} {len e sz id n j off : Nat} {i : Int} (h0 : 0 ≤ i) (h1 : i < len) (h2 : 0 < sz) : indexV H (.arr len e) sz (.ptr id n j off) i = some (.ptr id n j (off + i.toNat * sz)) := by
  simp [indexV, h0, h1, h2]
@[go_sem] theorem field_ptr {off sz id n i o : Nat} : fieldV (some (off, sz + 1)) (.ptr id n i o) = some (.ptr id n i (o + off)) := rfl
@[go_sem] theorem field_tp {off sz i o : Nat} {xs : List T} : fieldV (some (off, sz + 1)) (.tp xs i o) = some (.tp xs i (o + off)) := rfl
@[go_sem] theorem field_ptr1 {off id n i o : Nat} : fieldV (some (off, 1)) (.ptr id n i o) = some (.ptr id n i (o + off)) := rfl
@[go_sem] theorem field_tp1 {off i o : Nat} {xs : List T} : fieldV (some (off, 1)) (.tp xs i o) = some (.tp xs i (o + off)) := rfl
@[go_sem] theorem rd_cell {v : V} {esz off sz : Nat} : rdV v esz off false sz = v.cells[off]? := rfl
theorem rd_whole {v : V} {sz : Nat} (h : v.isAgg = true) : rdV v sz 0 true sz = some v := by simp [rdV, h]

/-! Objects -/
theorem cur_bind {H : Heap} {id n : Nat} : cur H id n = (H[id]?).bind fun o => if o.el.length = n then some o else none := by
  unfold cur; cases H[id]? <;> rfl
/-- A row of a function's own. -/
def cur1 (o : Obj) (n : Nat) : Option Obj := if o.el.length = n then some o else none
@[go_sem] theorem cur_go {H : Heap} {id n : Nat} : cur H id n = (H[id]?).bind fun o => cur1 o n := cur_bind
@[go_sem] theorem cur1_vs {l : List α} {n esz : Nat} {st : Bool} (h : l.length = n) : cur1 ⟨vs l, esz, st⟩ n = some ⟨vs l, esz, st⟩ := by simp [cur1, vs_len, h]
@[go_sem] theorem cur1_one {v : V} {esz : Nat} {st : Bool} : cur1 ⟨[v], esz, st⟩ 1 = some ⟨[v], esz, st⟩ := rfl
def ix1 (o : Obj) (id n sz : Nat) (i : Int) : Option V := if 0 ≤ i ∧ i < n ∧ o.esz = sz ∧ 0 < sz then some (.ptr id n i.toNat 0) else none
@[go_sem] theorem ix_ref' {H : Heap} {e sz id n : Nat} {i : Int} : indexV H (.sl e) sz (.ref id n) i = (cur H id n).bind fun o => ix1 o id n sz i := rfl
@[go_sem] theorem ix1_go {el : List V} {id n sz : Nat} {st : Bool} {i : Int} (h0 : 0 ≤ i) (h1 : i < n) (h2 : 0 < sz) : ix1 ⟨el, sz, st⟩ id n sz i = some (.ptr id n i.toNat 0) := by simp [ix1, h0, h1, h2]
def load1 (H : Heap) (id : Nat) (o : Obj) (i off : Nat) (a : Bool) (sz : Nat) : Option Res := (o.el[i]?).bind fun v => (rdV v o.esz off a sz).bind fun u => some ⟨u, H, .load id⟩
@[go_sem] theorem load_ptr {H : Heap} {a : Bool} {sz id n i off : Nat} : loadV H (some (a, sz)) (.ptr id n i off) = (cur H id n).bind fun o => load1 H id o i off a sz := rfl
@[go_sem] theorem load1_vs [One α] {H : Heap} {id i : Nat} {l : List α} {st : Bool} (hi : i < l.length) : load1 H id ⟨vs l, 1, st⟩ i 0 false 1 = some ⟨.t (enc (gd l i)), H, .load id⟩ := by
  simp [load1, vs_get l i hi, rdV, One.cells1]
theorem load1_vsc {H : Heap} {id i off sz : Nat} {a : Bool} {l : List α} {st : Bool} (hi : i < l.length) : load1 H id ⟨vs l, Enc.sz α, st⟩ i off a sz = (rdV (.t (enc (gd l i))) (Enc.sz α) off a sz).bind fun u => some ⟨u, H, .load id⟩ := by
  simp [load1, vs_get l i hi]
@[go_sem] theorem load1_one {H : Heap} {id off sz esz : Nat} {a : Bool} {v : V} {st : Bool} : load1 H id ⟨[v], esz, st⟩ 0 off a sz = (rdV v esz off a sz).bind fun u => some ⟨u, H, .load id⟩ := rfl
def store1 (H : Heap) (id : Nat) (o : Obj) (i off sz : Nat) (u : V) : Option Res := (o.el[i]?).bind fun v =>
      if o.st = false ∧ u.storable = true ∧ u.cells.length = sz then
        (wrV v o.esz off u).bind fun v' => some ⟨.dead, H.set id { o with el := o.el.set i v' }, .wild⟩ else none
@[go_sem] theorem store_ptr {H : Heap} {a : Bool} {sz id n i off : Nat} {u : V} : storeV H (some (a, sz)) (.ptr id n i off) u = (cur H id n).bind fun o => store1 H id o i off sz u := rfl
@[go_sem] theorem store1_vs [One α] {H : Heap} {id i : Nat} {l : List α} {u : V} (hi : i < l.length) (h1 : u.cells = [u]) (h2 : u.storable = true) : store1 H id ⟨vs l, 1, false⟩ i 0 1 u = some ⟨.dead, H.set id ⟨(vs l).set i u, 1, false⟩, .wild⟩ := by
  simp [store1, vs_get l i hi, h1, h2, wrV]
@[go_sem] theorem store1_one {H : Heap} {id off sz esz : Nat} {v u : V} (h1 : u.storable = true) (h2 : u.cells.length = sz) : store1 H id ⟨[v], esz, false⟩ 0 off sz u = (wrV v esz off u).bind fun v' => some ⟨.dead, H.set id ⟨[v'], esz, false⟩, .wild⟩ := by
  simp [store1, h1, h2]
theorem wr_whole {v u : V} {esz : Nat} (h : u.cells.length = esz) : wrV v esz 0 u = some u := by simp [wrV, h]
def app1 (H : Heap) (id : Nat) (o : Obj) (n sz by_ : Nat) (ys : List V) : Option Res :=
  if ys.isEmpty = true then ret (.ref id n) H
          else if roomOk (n + ys.length) by_ = true ∧ o.esz = sz then
            some ⟨.ref id (n + ys.length), H.set id { o with el := o.el ++ ys }, .grow id⟩ else none
@[go_sem] theorem app_ref {H : Heap} {id n sz by_ : Nat} {ys : List V} (hy : ys.all (fits sz) = true) : appendV (some (sz, by_)) H (.ref id n) ys = (cur H id n).bind fun o => app1 H id o n sz by_ ys := by
  simp only [appendV, Option.bind_some, hy, if_true]; rfl
@[go_sem] theorem app1_go {H : Heap} {id n sz by_ : Nat} {el ys : List V} {st : Bool} (h0 : ys.isEmpty = false) (hr : (n + ys.length) * by_ ≤ 70368744177664) : app1 H id ⟨el, sz, st⟩ n sz by_ ys = some ⟨.ref id (n + ys.length), H.set id ⟨el ++ ys, sz, st⟩, .grow id⟩ := by
  have hr' : roomOk (n + ys.length) by_ = true := by simpa [roomOk] using hr
  simp [app1, h0, hr']
@[go_sem] theorem app1_nil {H : Heap} {id n sz by_ : Nat} {o : Obj} : app1 H id o n sz by_ [] = some ⟨.ref id n, H, .none⟩ := rfl
@[go_sem] theorem app_ex_nil {H : Heap} {sz by_ : Nat} {xs : List T} : appendV (some (sz, by_)) H (.ex xs) [] = some ⟨.ex xs, H, .none⟩ := rfl
@[go_sem] theorem app_ex {H : Heap} {sz by_ : Nat} {xs : List T} {ys : List V} (hy : ys.all (fits sz) = true) (h0 : ys.isEmpty = false) (hx : (xs.map V.t).all (fits sz) = true) (hr : (xs.length + ys.length) * by_ ≤ 70368744177664) :
    appendV (some (sz, by_)) H (.ex xs) ys = some ⟨.ref H.length (xs.length + ys.length), H ++ [⟨xs.map .t ++ ys, sz, false⟩], .none⟩ := by
  have hr' : roomOk (xs.length + ys.length) by_ = true := by simpa [roomOk] using hr
  simp only [appendV, Option.bind_some, hy, if_true, h0, hx, hr', Bool.false_eq_true, if_false, and_self]
@[go_sem] theorem all_fits_nil (n) : List.all [] (fits n) = true := rfl
@[go_sem] theorem all_fits_cons (n) (v : V) (r : List V) : List.all (v :: r) (fits n) = (fits n v && List.all r (fits n)) := rfl
@[go_sem] theorem isEmpty_cons' (v : V) (r : List V) : List.isEmpty (v :: r) = false := rfl
@[go_sem] theorem slOf_enc {H : Heap} {l : List α} : slOf H (.t (enc l)) = some (vs l) := by show some _ = _; rw [map_t_enc]
@[go_sem] theorem slOf_ex {H : Heap} {xs : List T} : slOf H (.ex xs) = some (xs.map .t) := rfl
@[go_sem] theorem slOf_ref {H : Heap} {id n : Nat} : slOf H (.ref id n) = (cur H id n).bind fun o => some o.el := by show (cur H id n).map _ = _; cases cur H id n <;> rfl
@[go_sem] theorem rowOf_go {P : Program} {e : TypeId} : rowOf P e = (infoOf P e).bind fun i => (zeroV P e).bind fun z => row1 i z := by
  unfold rowOf; cases infoOf P e <;> cases zeroV P e <;> rfl
@[go_sem] theorem row1_go {sz by_ : Nat} {z : V} (h : z.cells.length = sz) (h1 : 0 < sz) (h2 : 0 < by_) : row1 (sz, by_) z = some (sz, by_) := by simp [row1, h, h1, h2]

def toTo (H : Heap) (o : Obj) : Option T := (o.el.mapM (toT H 3)).map T.sl
@[go_sem] theorem toT_ref' {H : Heap} {id n : Nat} : toT H depth (.ref id n) = (cur H id n).bind (toTo H) := by
  show (match cur H id n with | some o => (o.el.mapM (toT H 3)).map T.sl | none => none) = _
  cases cur H id n <;> rfl
@[go_sem] theorem toTo_vs {H : Heap} {l : List α} {esz : Nat} {st : Bool} : toTo H ⟨vs l, esz, st⟩ = some (enc l) := by
  simp only [toTo]; rw [← map_t_enc, mapM_t]; rfl
def holdo (H : Heap) (id : Nat) (o : Obj) : Heap := o.el.foldl (hold 3) (H.set id { o with st := true })
@[go_sem] theorem hold_ref' {H : Heap} {id n : Nat} : hold depth H (.ref id n) = ((cur H id n).map (holdo H id)).getD H := by
  show (match cur H id n with | some o => o.el.foldl (hold 3) (H.set id { o with st := true }) | none => H) = _
  cases cur H id n <;> rfl
@[go_sem] theorem holdo_vs {H : Heap} {id : Nat} {l : List α} {esz : Nat} {st : Bool} : holdo H id ⟨vs l, esz, st⟩ = H.set id ⟨vs l, esz, true⟩ := by
  simp only [holdo]; rw [← map_t_enc, foldl_hold_t]
@[go_sem] theorem exportV_ref' {H : Heap} {id n : Nat} {l : List α} {esz : Nat} {st : Bool} (h : H[id]? = some ⟨vs l, esz, st⟩) (hn : l.length = n) : exportV H (.ref id n) = some (.fr esz st (l.map enc)) :=
  exportV_ref (o := ⟨vs l, esz, st⟩) (by simp [cur, h, hn, vs_len]) (map_t_enc l).symm
@[go_sem] theorem exportV_0 {R : Heap} {n : Nat} {l : List α} {esz : Nat} {st : Bool} (hn : l.length = n) : exportV (⟨vs l, esz, st⟩ :: R) (.ref 0 n) = some (.fr esz st (l.map enc)) := exportV_ref' rfl hn
@[go_sem] theorem exportV_1 {R : Heap} {o : Obj} {n : Nat} {l : List α} {esz : Nat} {st : Bool} (hn : l.length = n) : exportV (o :: ⟨vs l, esz, st⟩ :: R) (.ref 1 n) = some (.fr esz st (l.map enc)) := exportV_ref' rfl hn
@[go_sem] theorem exportV_2 {R : Heap} {o p : Obj} {n : Nat} {l : List α} {esz : Nat} {st : Bool} (hn : l.length = n) : exportV (o :: p :: ⟨vs l, esz, st⟩ :: R) (.ref 2 n) = some (.fr esz st (l.map enc)) := exportV_ref' rfl hn
attribute [go_sem] Option.getD_some List.getElem?_concat_length List.length_map List.length_range
@[go_sem] theorem set_concat {R : Heap} {o o' : Obj} : (R ++ [o]).set R.length o' = R ++ [o'] := by
  rw [List.set_append_right _ _ (Nat.le_refl _)]; simp
end
def alloc1 (z : V) (H : Heap) : Option Res := if z.storable = true then some ⟨.ptr H.length 1 0 0, H ++ [⟨[z], z.cells.length, false⟩], .none⟩ else none
@[go_sem] theorem r_alloc {P : Program} {t : TypeId} {e : Env} {H : Heap} : opRun P (.alloc t) e H = (zeroV P t).bind fun z => alloc1 z H := by
  simp only [opRun]; cases zeroV P t <;> rfl
@[go_sem] theorem alloc1_go {z : V} {H : Heap} (h : z.storable = true) : alloc1 z H = some ⟨.ptr H.length 1 0 0, H ++ [⟨[z], z.cells.length, false⟩], .none⟩ := by simp [alloc1, h]
def box1 (v : V) (H : Heap) : Option Res := if v.storable = true then some ⟨.ptr H.length 1 0 0, H ++ [⟨[v], v.cells.length, false⟩], .none⟩ else none
@[go_sem] theorem r_box' {P : Program} {t : TypeId} {x : Operand} {e : Env} {H : Heap} : opRun P (.box t x) e H = (ev e x).bind fun v => box1 v H := r_box P t x e H
@[go_sem] theorem box1_go {z : V} {H : Heap} (h : z.storable = true) : box1 z H = some ⟨.ptr H.length 1 0 0, H ++ [⟨[z], z.cells.length, false⟩], .none⟩ := by simp [box1, h]
/-! Structs and arrays, built -/
def mkA : Option (List T) → List V → V
  | some ts, _ => .t (.agg ts)
  | none, cs => .agg cs
@[go_sem] theorem mkAgg_A (cs : List V) : mkAgg cs = mkA (allT cs) cs := by unfold mkAgg mkA; cases allT cs <;> rfl
@[go_sem] theorem mkA_some (ts cs) : mkA (some ts) cs = .t (.agg ts) := rfl
@[go_sem] theorem mkA_none (cs) : mkA none cs = .agg cs := rfl
@[go_sem] theorem allT_nil : allT [] = some [] := rfl
@[go_sem] theorem allT_t (x r) : allT (.t x :: r) = (allT r).bind fun ts => some (x :: ts) := by
  show (allT r).map _ = _
  cases allT r <;> rfl
@[go_sem] theorem allT_ex (x r) : allT (.ex x :: r) = none := rfl
@[go_sem] theorem allT_ref (i n r) : allT (.ref i n :: r) = none := rfl
@[go_sem] theorem allT_ptr (i n j o r) : allT (.ptr i n j o :: r) = none := rfl
@[go_sem] theorem allT_fn (f a b r) : allT (.fn f a b :: r) = none := rfl
def plK (P : Program) (t : TypeId) : Kd → Option (Nat → Option (Nat × Nat))
  | .struct => (fldsOf P t).bind fun fl => some fun i => fl[i]?
  | .arr _ e => (infoOf P e).bind fun p => some fun i => some (i * p.1, p.1)
  | _ => none
theorem plOf_K (P t) : plOf P t = plK P t (kdOf P t) := by
  unfold plOf plK
  cases kdOf P t with
  | struct => cases fldsOf P t <;> rfl
  | arr n e => simp only; cases infoOf P e <;> rfl
  | _ => rfl
@[go_sem] theorem r_build {P : Program} {t : TypeId} {parts : List (Nat × Operand)} {e : Env} {H : Heap} : opRun P (.build t parts.toArray) e H = (evParts e parts).bind fun l => (zeroV P t).bind fun z => (plOf P t).bind fun pl => (placesV pl l).bind fun l => (fillV z.cells l).bind fun cs => some ⟨mkAgg cs, H, .none⟩ := by
  simp only [opRun, buildV]
  cases evParts e parts with
  | none => rfl
  | some l =>
    simp only [Option.bind_some, Option.bind_assoc]
    rfl
attribute [go_sem] plOf_K
@[go_sem] theorem plK_struct {P t} : plK P t .struct = (fldsOf P t).bind fun fl => some fun i => fl[i]? := rfl
@[go_sem] theorem plK_arr {P t n e} : plK P t (.arr n e) = (infoOf P e).bind fun p => some fun i => some (i * p.1, p.1) := rfl
@[go_sem] theorem placesV_nil (pl) : placesV pl [] = some [] := rfl
@[go_sem] theorem placesV_cons (pl i v r) : placesV pl ((i, v) :: r) = (pl i).bind fun p => (placesV pl r).bind fun l => some ((p.1, p.2, v) :: l) := rfl
@[go_sem] theorem fillV_nil (cs) : fillV cs [] = some cs := rfl
@[go_sem] theorem fillV_cons {cs off sz v r} (h1 : v.cells.length = sz) (h2 : off + sz ≤ cs.length) : fillV cs ((off, sz, v) :: r) = fillV (cs.take off ++ v.cells ++ cs.drop (off + sz)) r := by simp [fillV, h1, h2]
attribute [go_sem] List.take_succ_cons List.take_zero List.drop_succ_cons List.drop_zero Nat.zero_add Nat.add_zero List.append_nil
@[go_sem] theorem cellsV_agg (cs) : (V.agg cs).cells = cs := rfl
@[go_sem] theorem cellsV_tagg (cs) : (V.t (.agg cs)).cells = cs.map .t := rfl
@[go_sem] theorem cellsV_nilp : (V.t .nilp).cells = [V.t .nilp] := rfl
@[go_sem] theorem cellsV_nilf : (V.t .nilf).cells = [V.t .nilf] := rfl
@[go_sem] theorem cellsV_nili : (V.t .nili).cells = [V.t .nili] := rfl
@[go_sem] theorem cellsV_fnT (f) : (V.t (.fn f)).cells = [V.t (.fn f)] := rfl
@[go_sem] theorem cellsV_fn (f a b) : (V.fn f a b).cells = [V.fn f a b] := rfl
@[go_sem] theorem cellsV_ptr (a b c d) : (V.ptr a b c d).cells = [V.ptr a b c d] := rfl
def T.cell1 : T → Bool
  | .agg _ | .tup _ => false
  | _ => true
theorem cell1_t (x : T) : V.cell1 (.t x) = T.cell1 x := by cases x <;> rfl
@[go_sem] theorem stor_tagg (x : T) (cs : List T) : (V.t (.agg (x :: cs))).storable = (T.cell1 x && cs.all T.cell1) := by
  simp only [V.storable, V.cells, List.map_cons, List.isEmpty_cons, Bool.not_false, Bool.true_and, List.all_cons, cell1_t, List.all_map]
  congr 1
@[go_sem] theorem stor_agg (x : V) (cs : List V) : (V.agg (x :: cs)).storable = (V.cell1 x && cs.all V.cell1) := rfl
attribute [go_sem] cell1_t List.all_cons List.all_nil
@[go_sem] theorem cell1_int (k n) : T.cell1 (.int k n) = true := rfl
@[go_sem] theorem cell1_bool (k) : T.cell1 (.bool k) = true := rfl
@[go_sem] theorem cell1_str (k) : T.cell1 (.str k) = true := rfl
@[go_sem] theorem cell1_sl (k) : T.cell1 (.sl k) = true := rfl
@[go_sem] theorem cell1_fn (k) : T.cell1 (.fn k) = true := rfl
@[go_sem] theorem cell1_nilp : T.cell1 .nilp = true := rfl
@[go_sem] theorem cell1_nilf : T.cell1 .nilf = true := rfl
@[go_sem] theorem cell1_nili : T.cell1 .nili = true := rfl
@[go_sem] theorem cell1_lst {α : Type} [Enc α] (l : List α) : T.cell1 (enc l) = true := rfl
@[go_sem] theorem cell1_ex (k) : V.cell1 (.ex k) = true := rfl
@[go_sem] theorem cell1_ref (k n) : V.cell1 (.ref k n) = true := rfl
@[go_sem] theorem cell1_ptr (k n i o) : V.cell1 (.ptr k n i o) = true := rfl
@[go_sem] theorem cell1_fnV (k n i) : V.cell1 (.fn k n i) = true := rfl
def minT (op : Int → Int → Int) (x y : T) (H : Heap) : Option Res := match x, y with
  | .int k a, .int k' b => if k = k' then ret (.t (.int k (op a b))) H else none
  | _, _ => none
@[go_sem] theorem minT_go {op k a b H} : minT op (.int k a) (.int k b) H = some ⟨.t (.int k (op a b)), H, .none⟩ := by simp [minT, ret]
@[go_sem] theorem r_min {P : Program} {a b : Operand} {ts : Array TypeId} {e : Env} {H : Heap} : opRun P (.call { callee := .builtin .min, args := #[a, b], argTypes := ts }) e H = ((ev e a).bind tOf).bind fun x => ((ev e b).bind tOf).bind fun y => minT min x y H := by
  simp only [opRun, evs]
  cases ev e a with
  | none => cases ev e b <;> rfl
  | some v => cases ev e b with
    | none => cases v <;> rfl
    | some u =>
      cases v with
      | t x => cases u with
        | t y => cases x <;> cases y <;> rfl
        | _ => cases x <;> rfl
      | _ => cases u <;> rfl
@[go_sem] theorem r_max {P : Program} {a b : Operand} {ts : Array TypeId} {e : Env} {H : Heap} : opRun P (.call { callee := .builtin .max, args := #[a, b], argTypes := ts }) e H = ((ev e a).bind tOf).bind fun x => ((ev e b).bind tOf).bind fun y => minT max x y H := by
  simp only [opRun, evs]
  cases ev e a with
  | none => cases ev e b <;> rfl
  | some v => cases ev e b with
    | none => cases v <;> rfl
    | some u =>
      cases v with
      | t x => cases u with
        | t y => cases x <;> cases y <;> rfl
        | _ => cases x <;> rfl
      | _ => cases u <;> rfl
def index1 (P : Program) (H : Heap) : Kd → V → Int → Option Res
  | .str, .t (.str s), n => if 0 ≤ n ∧ n < s.size then ret (.t (.int .u8 (s.get! n.toNat).toNat)) H else none
  | .arr len el, .t (.agg cs), n => if 0 ≤ n ∧ n < len ∧ (tyOf P el == some (false, 1)) = true then (cs[n.toNat]?).bind fun x => ret (.t x) H else none
  | _, _, _ => none
@[go_sem] theorem r_index {P : Program} {t : TypeId} {x i : Operand} {e : Env} {H : Heap} : opRun P (.index t x i) e H = (ev e x).bind fun v => ((ev e i).bind asInt).bind fun n => index1 P H (kdOf P t) v n := by
  simp only [opRun]
  cases hx : ev e x with
  | none => cases kdOf P t <;> cases (ev e i).bind asInt <;> rfl
  | some v =>
    cases hi : (ev e i).bind asInt with
    | none => cases kdOf P t <;> cases v <;> first | rfl | (rename_i x; cases x <;> rfl)
    | some n => cases kdOf P t <;> cases v <;> first | rfl | (rename_i x; cases x <;> rfl)
@[go_sem] theorem index1_str {P : Program} {H : Heap} {s : ByteArray} {n : Int} (h0 : 0 ≤ n) (h1 : n < s.size) : index1 P H .str (.t (.str s)) n = some ⟨.t (.int .u8 (s.get! n.toNat).toNat), H, .none⟩ := by simp [index1, h0, h1, ret]
@[go_sem] theorem index1_arr {P : Program} {H : Heap} {len el : Nat} {cs : List T} {n : Int} (ht : tyOf P el = some (false, 1)) (h0 : 0 ≤ n) (h1 : n < len) : index1 P H (.arr len el) (.t (.agg cs)) n = (cs[n.toNat]?).bind fun x => some ⟨.t x, H, .none⟩ := by
  simp only [index1, ht, h0, h1, BEq.rfl, and_self, if_true]; rfl
def mkFn (f : FuncId) : List V → List V → V
  | [], [] => .t (.fn f)
  | a, b => .fn f a b
@[go_sem] theorem mkFn_0 (f) : mkFn f [] [] = .t (.fn f) := rfl
@[go_sem] theorem mkFn_1 (f x a b) : mkFn f (x :: a) b = .fn f (x :: a) b := rfl
@[go_sem] theorem mkFn_2 (f x b) : mkFn f [] (x :: b) = .fn f [] (x :: b) := rfl
@[go_sem] theorem r_makeFunc {P : Program} {f : FuncId} {a b : List Operand} {e : Env} {H : Heap} : opRun P (.makeFunc (.func f) a.toArray b.toArray) e H = (evs e a).bind fun a => (evs e b).bind fun b => some ⟨mkFn f a b, H, .none⟩ := by
  simp only [opRun]
  cases evs e a with
  | none => cases evs e b <;> rfl
  | some a => cases evs e b with
    | none => cases a <;> rfl
    | some b => cases a <;> cases b <;> rfl
theorem wrV_one {v u : V} {off : Nat} (h : u.cells.length = 1) : wrV v 1 0 u = some u := wr_whole h
@[go_sem] theorem wrV_1 {v u : V} (h : u.cells.length = 1) : wrV v 1 0 u = some u := wr_whole h
@[go_sem] theorem toT_ptr {H : Heap} {d id n i off : Nat} : toT H d (.ptr id n i off) = none := by cases d <;> rfl
@[go_sem] theorem toT_fn {H : Heap} {d : Nat} {f : FuncId} {a b : List V} : toT H d (.fn f a b) = none := by cases d <;> rfl
end Go.Sim
