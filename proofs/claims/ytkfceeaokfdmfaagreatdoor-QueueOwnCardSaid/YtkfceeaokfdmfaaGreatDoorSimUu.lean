/- A part of the proof of a law of module cupola: SimU2, SimU3, SimLp. It has no conditions of its own. -/
import Derived.Test.YtkfceeaokfdmfaaGreatDoorSimE
import Derived.KernelRfl
set_option linter.all false
namespace Go.Sim
open Enc (enc)
variable [Orc]
class One (α : Type) [Enc α] : Prop where
  sz1 : Enc.sz α = 1
  cells1 : ∀ a : α, (V.t (enc a)).cells = [.t (enc a)]
  stor : ∀ a : α, (V.t (enc a)).storable = true
instance : One Int := ⟨rfl, fun _ => rfl, fun _ => rfl⟩
instance : One U32 := ⟨rfl, fun _ => rfl, fun _ => rfl⟩
instance : One Bool := ⟨rfl, fun _ => rfl, fun _ => rfl⟩
instance : One ByteArray := ⟨rfl, fun _ => rfl, fun _ => rfl⟩
instance {α : Type} [Enc α] : One (List α) := ⟨rfl, fun _ => rfl, fun _ => rfl⟩

section
variable {α : Type} [Enc α]
omit [Orc] in
@[go_sem] theorem fold_u32 (l : List U32) (x : U32) : vs l ++ [V.t (.int .u32 (x.toNat : Int))] = vs (l ++ [x]) := by simp [vs, enc_u32]
omit [Orc] in
@[go_sem] theorem fold_int (l : List Int) (x : Int) : vs l ++ [V.t (.int .i64 x)] = vs (l ++ [x]) := by simp [vs, enc_int]
omit [Orc] in
@[go_sem] theorem fold_bool (l : List Bool) (x : Bool) : vs l ++ [V.t (.bool x)] = vs (l ++ [x]) := by simp [vs, enc_bool]
omit [Orc] in
@[go_sem] theorem fold_str (l : List ByteArray) (x : ByteArray) : vs l ++ [V.t (.str x)] = vs (l ++ [x]) := by simp [vs, enc_str]
omit [Orc] in
@[go_sem] theorem fold_enc (l : List α) (x : α) : vs l ++ [V.t (enc x)] = vs (l ++ [x]) := by simp [vs]
omit [Orc] in
@[go_sem] theorem set_u32 (l : List U32) (i : Nat) (x : U32) : (vs l).set i (V.t (.int .u32 (x.toNat : Int))) = vs (l.set i x) := vs_set l i x
omit [Orc] in
@[go_sem] theorem set_u320 (l : List U32) (i : Nat) : (vs l).set i (V.t (.int .u32 0)) = vs (l.set i 0#32) := vs_set l i 0#32
omit [Orc] in
@[go_sem] theorem set_int (l : List Int) (i : Nat) (x : Int) : (vs l).set i (V.t (.int .i64 x)) = vs (l.set i x) := vs_set l i x
omit [Orc] in
@[go_sem] theorem set_bool (l : List Bool) (i : Nat) (x : Bool) : (vs l).set i (V.t (.bool x)) = vs (l.set i x) := vs_set l i x
omit [Orc] in
@[go_sem] theorem set_enc (l : List α) (i : Nat) (x : α) : (vs l).set i (V.t (enc x)) = vs (l.set i x) := vs_set l i x
omit [Orc] in
theorem one_u32 (x : U32) : [V.t (.int .u32 (x.toNat : Int))] = vs [x] := rfl
omit [Orc] in
theorem one_int (x : Int) : [V.t (.int .i64 x)] = vs [x] := rfl
omit [Orc] in
theorem one_bool (x : Bool) : [V.t (.bool x)] = vs [x] := rfl
omit [Orc] in
theorem one_enc (x : α) : [V.t (enc x)] = vs [x] := rfl
omit [Orc] in
@[go_sem] theorem fits_int (k n) : fits 1 (.t (.int k n)) = true := rfl
omit [Orc] in
@[go_sem] theorem fits_bool (b) : fits 1 (.t (.bool b)) = true := rfl
omit [Orc] in
@[go_sem] theorem fits_str (b) : fits 1 (.t (.str b)) = true := rfl
omit [Orc] in
@[go_sem] theorem fits_enc [One α] (a : α) : fits 1 (.t (enc a)) = true := by simp [fits, One.stor, One.cells1]
omit [Orc] in
@[go_sem] theorem sz_one [One α] : Enc.sz α = 1 := One.sz1
omit [Orc] in
@[go_sem] theorem cells_enc [One α] (a : α) : (V.t (enc a)).cells = [.t (enc a)] := One.cells1 a
omit [Orc] in
@[go_sem] theorem stor_enc [One α] (a : α) : (V.t (enc a)).storable = true := One.stor a
omit [Orc] in
theorem fits_vs [One α] (l : List α) : (vs l).all (fits 1) = true := by simp [vs, fits_enc]
omit [Orc] in
@[go_sem] theorem map_enc_all [One α] (l : List α) : ((l.map enc).map V.t).all (fits 1) = true := by rw [map_t_enc]; exact fits_vs l

omit [Orc] in
@[go_sem] theorem ix_enc1 [One α] {H : Heap} {e : Nat} {l : List α} {i : Int} (h0 : 0 ≤ i) (h1 : i < l.length) : indexV H (.sl e) 1 (.t (enc l)) i = some (.tp (l.map enc) i.toNat 0) := ix_enc One.sz1 h0 h1
omit [Orc] in
@[go_sem] theorem ix_ex1 [One α] {H : Heap} {e : Nat} {l : List α} {i : Int} (h0 : 0 ≤ i) (h1 : i < l.length) : indexV H (.sl e) 1 (.ex (l.map enc)) i = some (.tp (l.map enc) i.toNat 0) := ix_enc1 (H := H) (e := e) (l := l) h0 h1
omit [Orc] in
@[go_sem] theorem load_tp1 [One α] {H : Heap} {l : List α} {i : Nat} (h1 : i < l.length) : loadV H (some (false, 1)) (.tp (l.map enc) i 0) = some ⟨.t (enc (gd l i)), H, .none⟩ :=
  load_tp (by simp [gd_opt h1]) (by have := One.cells1 (gd l i); revert this; cases enc (gd l i) <;> simp [T.cells, V.cells]) (One.cells1 _)
omit [Orc] in
theorem load_tpc {H : Heap} {l : List α} {i off sz : Nat} {a : Bool} (h1 : i < l.length) : loadV H (some (a, sz)) (.tp (l.map enc) i off) = (rdV (.t (enc (gd l i))) (Enc.sz α) off a sz).bind fun u => some ⟨u, H, .none⟩ := by
  simp [loadV, gd_opt h1, Enc.cells]
omit [Orc] in
@[go_sem] theorem ix_arr_tp {H : Heap} {len e sz j off : Nat} {xs : List T} {i : Int} (h0 : 0 ≤ i) (h1 : i < len) (h2 : 0 < sz) : indexV H (.arr len e) sz (.tp xs j off) i = some (.tp xs j (off + i.toNat * sz)) := by
  simp [indexV, h0, h1, h2]
omit [Orc] in
@[go_sem] theorem ix_arr_ptr {H : Heap} {len e sz id n j off : Nat} {i : Int} (h0 : 0 ≤ i) (h1 : i < len) (h2 : 0 < sz) : indexV H (.arr len e) sz (.ptr id n j off) i = some (.ptr id n j (off + i.toNat * sz)) := by
  simp [indexV, h0, h1, h2]
omit [Orc] in
@[go_sem] theorem field_ptr {off sz id n i o : Nat} : fieldV (some (off, sz + 1)) (.ptr id n i o) = some (.ptr id n i (o + off)) := rfl
omit [Orc] in
@[go_sem] theorem field_tp {off sz i o : Nat} {xs : List T} : fieldV (some (off, sz + 1)) (.tp xs i o) = some (.tp xs i (o + off)) := rfl
omit [Orc] in
@[go_sem] theorem field_ptr1 {off id n i o : Nat} : fieldV (some (off, 1)) (.ptr id n i o) = some (.ptr id n i (o + off)) := rfl
omit [Orc] in
@[go_sem] theorem field_tp1 {off i o : Nat} {xs : List T} : fieldV (some (off, 1)) (.tp xs i o) = some (.tp xs i (o + off)) := rfl
omit [Orc] in
@[go_sem] theorem rd_cell {v : V} {esz off sz : Nat} : rdV v esz off false sz = v.cells[off]? := rfl
omit [Orc] in
theorem rd_whole {v : V} {sz : Nat} (h : v.isAgg = true) : rdV v sz 0 true sz = some v := by simp [rdV, h]

omit [Orc] in
theorem cur_bind {H : Heap} {id n : Nat} : cur H id n = (H[id]?).bind fun o => if o.el.length = n then some o else none := by
  unfold cur; cases H[id]? <;> rfl
def cur1 (o : Obj) (n : Nat) : Option Obj := if o.el.length = n then some o else none
omit [Orc] in
@[go_sem] theorem cur_go {H : Heap} {id n : Nat} : cur H id n = (H[id]?).bind fun o => cur1 o n := cur_bind
omit [Orc] in
@[go_sem] theorem cur1_vs {l : List α} {n esz : Nat} {st : Bool} (h : l.length = n) : cur1 ⟨vs l, esz, st⟩ n = some ⟨vs l, esz, st⟩ := by simp [cur1, vs_len, h]
omit [Orc] in
@[go_sem] theorem cur1_one {v : V} {esz : Nat} {st : Bool} : cur1 ⟨[v], esz, st⟩ 1 = some ⟨[v], esz, st⟩ := rfl
def ix1 (o : Obj) (id n sz : Nat) (i : Int) : Option V := if 0 ≤ i ∧ i < n ∧ o.esz = sz ∧ 0 < sz then some (.ptr id n i.toNat 0) else none
omit [Orc] in
@[go_sem] theorem ix_ref' {H : Heap} {e sz id n : Nat} {i : Int} : indexV H (.sl e) sz (.ref id n) i = (cur H id n).bind fun o => ix1 o id n sz i := rfl
omit [Orc] in
@[go_sem] theorem ix1_go {el : List V} {id n sz : Nat} {st : Bool} {i : Int} (h0 : 0 ≤ i) (h1 : i < n) (h2 : 0 < sz) : ix1 ⟨el, sz, st⟩ id n sz i = some (.ptr id n i.toNat 0) := by simp [ix1, h0, h1, h2]
def load1 (H : Heap) (id : Nat) (o : Obj) (i off : Nat) (a : Bool) (sz : Nat) : Option Res := (o.el[i]?).bind fun v => (rdV v o.esz off a sz).bind fun u => some ⟨u, H, .load id⟩
omit [Orc] in
@[go_sem] theorem load_ptr {H : Heap} {a : Bool} {sz id n i off : Nat} : loadV H (some (a, sz)) (.ptr id n i off) = (cur H id n).bind fun o => load1 H id o i off a sz := rfl
omit [Orc] in
@[go_sem] theorem load1_vs [One α] {H : Heap} {id i : Nat} {l : List α} {st : Bool} (hi : i < l.length) : load1 H id ⟨vs l, 1, st⟩ i 0 false 1 = some ⟨.t (enc (gd l i)), H, .load id⟩ := by
  simp [load1, vs_get l i hi, rdV, One.cells1]
omit [Orc] in
theorem load1_vsc {H : Heap} {id i off sz : Nat} {a : Bool} {l : List α} {st : Bool} (hi : i < l.length) : load1 H id ⟨vs l, Enc.sz α, st⟩ i off a sz = (rdV (.t (enc (gd l i))) (Enc.sz α) off a sz).bind fun u => some ⟨u, H, .load id⟩ := by
  simp [load1, vs_get l i hi]
omit [Orc] in
@[go_sem] theorem load1_one {H : Heap} {id off sz esz : Nat} {a : Bool} {v : V} {st : Bool} : load1 H id ⟨[v], esz, st⟩ 0 off a sz = (rdV v esz off a sz).bind fun u => some ⟨u, H, .load id⟩ := rfl
def store1 (H : Heap) (id : Nat) (o : Obj) (i off sz : Nat) (u : V) : Option Res := (o.el[i]?).bind fun v =>
      if o.st = false ∧ u.storable = true ∧ u.cells.length = sz then
        (wrV v o.esz off u).bind fun v' => some ⟨.dead, H.set id { o with el := o.el.set i v' }, .grow id⟩ else none
omit [Orc] in
@[go_sem] theorem store_ptr {H : Heap} {a : Bool} {sz id n i off : Nat} {u : V} : storeV H (some (a, sz)) (.ptr id n i off) u = (cur H id n).bind fun o => store1 H id o i off sz u := rfl
omit [Orc] in
@[go_sem] theorem store1_vs [One α] {H : Heap} {id i : Nat} {l : List α} {u : V} (hi : i < l.length) (h1 : u.cells = [u]) (h2 : u.storable = true) : store1 H id ⟨vs l, 1, false⟩ i 0 1 u = some ⟨.dead, H.set id ⟨(vs l).set i u, 1, false⟩, .grow id⟩ := by
  simp [store1, vs_get l i hi, h1, h2, wrV]
omit [Orc] in
@[go_sem] theorem store1_one {H : Heap} {id off sz esz : Nat} {v u : V} (h1 : u.storable = true) (h2 : u.cells.length = sz) : store1 H id ⟨[v], esz, false⟩ 0 off sz u = (wrV v esz off u).bind fun v' => some ⟨.dead, H.set id ⟨[v'], esz, false⟩, .grow id⟩ := by
  simp [store1, h1, h2]
omit [Orc] in
theorem wr_whole {v u : V} {esz : Nat} (h : u.cells.length = esz) : wrV v esz 0 u = some u := by simp [wrV, h]
def app1 (H : Heap) (id : Nat) (o : Obj) (n sz by_ : Nat) (ys : List V) : Option Res :=
  if ys.isEmpty = true then ret (.ref id n) H
          else if roomOk (n + ys.length) by_ = true ∧ o.esz = sz then
            some ⟨.ref id (n + ys.length), H.set id { o with el := o.el ++ ys }, .grow id⟩ else none
omit [Orc] in
@[go_sem] theorem app_ref {H : Heap} {id n sz by_ : Nat} {ys : List V} (hy : ys.all (fits sz) = true) : appendV (some (sz, by_)) H (.ref id n) ys = (cur H id n).bind fun o => app1 H id o n sz by_ ys := by
  simp only [appendV, Option.bind_some, hy, if_true]; rfl
omit [Orc] in
@[go_sem] theorem app1_go {H : Heap} {id n sz by_ : Nat} {el ys : List V} {st : Bool} (h0 : ys.isEmpty = false) (hr : (n + ys.length) * by_ ≤ 70368744177664) : app1 H id ⟨el, sz, st⟩ n sz by_ ys = some ⟨.ref id (n + ys.length), H.set id ⟨el ++ ys, sz, st⟩, .grow id⟩ := by
  have hr' : roomOk (n + ys.length) by_ = true := by simpa [roomOk] using hr
  simp [app1, h0, hr']
omit [Orc] in
@[go_sem] theorem app1_nil {H : Heap} {id n sz by_ : Nat} {o : Obj} : app1 H id o n sz by_ [] = some ⟨.ref id n, H, .none⟩ := rfl
omit [Orc] in
@[go_sem] theorem app_ex_nil {H : Heap} {sz by_ : Nat} {xs : List T} : appendV (some (sz, by_)) H (.ex xs) [] = some ⟨.ex xs, H, .none⟩ := rfl
omit [Orc] in
@[go_sem] theorem app_ex {H : Heap} {sz by_ : Nat} {xs : List T} {ys : List V} (hy : ys.all (fits sz) = true) (h0 : ys.isEmpty = false) (hx : (xs.map V.t).all (fits sz) = true) (hr : (xs.length + ys.length) * by_ ≤ 70368744177664) :
    appendV (some (sz, by_)) H (.ex xs) ys = some ⟨.ref H.length (xs.length + ys.length), H ++ [⟨xs.map .t ++ ys, sz, false⟩], .none⟩ := by
  have hr' : roomOk (xs.length + ys.length) by_ = true := by simpa [roomOk] using hr
  simp only [appendV, Option.bind_some, hy, if_true, h0, hx, hr', Bool.false_eq_true, if_false, and_self]
omit [Orc] in
@[go_sem] theorem all_fits_nil (n) : List.all [] (fits n) = true := rfl
omit [Orc] in
@[go_sem] theorem all_fits_cons (n) (v : V) (r : List V) : List.all (v :: r) (fits n) = (fits n v && List.all r (fits n)) := rfl
omit [Orc] in
@[go_sem] theorem isEmpty_cons' (v : V) (r : List V) : List.isEmpty (v :: r) = false := rfl
omit [Orc] in
@[go_sem] theorem slOf_enc {H : Heap} {l : List α} : slOf H (.t (enc l)) = some (vs l) := by show some _ = _; rw [map_t_enc]
omit [Orc] in
@[go_sem] theorem slOf_ex {H : Heap} {xs : List T} : slOf H (.ex xs) = some (xs.map .t) := rfl
omit [Orc] in
@[go_sem] theorem slOf_ref {H : Heap} {id n : Nat} : slOf H (.ref id n) = (cur H id n).bind fun o => some o.el := by show (cur H id n).map _ = _; cases cur H id n <;> rfl
omit [Orc] in
@[go_sem] theorem rowOf_go {P : Program} {e : TypeId} : rowOf P e = (infoOf P e).bind fun i => (zeroV P e).bind fun z => row1 i z := by
  unfold rowOf; cases infoOf P e <;> cases zeroV P e <;> rfl
omit [Orc] in
@[go_sem] theorem row1_go {sz by_ : Nat} {z : V} (h : z.cells.length = sz) (h1 : 0 < sz) (h2 : 0 < by_) : row1 (sz, by_) z = some (sz, by_) := by simp [row1, h, h1, h2]

def toTo (H : Heap) (o : Obj) : Option T := (o.el.mapM (toT H 3)).map T.sl
omit [Orc] in
@[go_sem] theorem toT_ref' {H : Heap} {id n : Nat} : toT H depth (.ref id n) = (cur H id n).bind (toTo H) := by
  show (match cur H id n with | some o => (o.el.mapM (toT H 3)).map T.sl | none => none) = _
  cases cur H id n <;> rfl
omit [Orc] in
@[go_sem] theorem toTo_vs {H : Heap} {l : List α} {esz : Nat} {st : Bool} : toTo H ⟨vs l, esz, st⟩ = some (enc l) := by
  simp only [toTo]; rw [← map_t_enc, mapM_t]; rfl
def holdo (H : Heap) (id : Nat) (o : Obj) : Heap := o.el.foldl (hold 3) (H.set id { o with st := true })
omit [Orc] in
@[go_sem] theorem hold_ref' {H : Heap} {id n : Nat} : hold depth H (.ref id n) = ((cur H id n).map (holdo H id)).getD H := by
  show (match cur H id n with | some o => o.el.foldl (hold 3) (H.set id { o with st := true }) | none => H) = _
  cases cur H id n <;> rfl
omit [Orc] in
@[go_sem] theorem holdo_vs {H : Heap} {id : Nat} {l : List α} {esz : Nat} {st : Bool} : holdo H id ⟨vs l, esz, st⟩ = H.set id ⟨vs l, esz, true⟩ := by
  simp only [holdo]; rw [← map_t_enc, foldl_hold_t]
omit [Orc] in
@[go_sem] theorem exportV_ref' {H : Heap} {id n : Nat} {l : List α} {esz : Nat} {st : Bool} (h : H[id]? = some ⟨vs l, esz, st⟩) (hn : l.length = n) : exportV H (.ref id n) = some (.fr esz st (l.map enc)) :=
  exportV_ref (o := ⟨vs l, esz, st⟩) (by simp [cur, h, hn, vs_len]) (map_t_enc l).symm
omit [Orc] in
@[go_sem] theorem exportV_0 {R : Heap} {n : Nat} {l : List α} {esz : Nat} {st : Bool} (hn : l.length = n) : exportV (⟨vs l, esz, st⟩ :: R) (.ref 0 n) = some (.fr esz st (l.map enc)) := exportV_ref' rfl hn
omit [Orc] in
@[go_sem] theorem exportV_1 {R : Heap} {o : Obj} {n : Nat} {l : List α} {esz : Nat} {st : Bool} (hn : l.length = n) : exportV (o :: ⟨vs l, esz, st⟩ :: R) (.ref 1 n) = some (.fr esz st (l.map enc)) := exportV_ref' rfl hn
omit [Orc] in
@[go_sem] theorem exportV_2 {R : Heap} {o p : Obj} {n : Nat} {l : List α} {esz : Nat} {st : Bool} (hn : l.length = n) : exportV (o :: p :: ⟨vs l, esz, st⟩ :: R) (.ref 2 n) = some (.fr esz st (l.map enc)) := exportV_ref' rfl hn
attribute [go_sem] Option.getD_some List.getElem?_concat_length List.length_map List.length_range
omit [Orc] in
@[go_sem] theorem set_concat {R : Heap} {o o' : Obj} : (R ++ [o]).set R.length o' = R ++ [o'] := by
  rw [List.set_append_right _ _ (Nat.le_refl _)]; simp
end
def alloc1 (z : V) (H : Heap) : Option Res := if z.storable = true then some ⟨.ptr H.length 1 0 0, H ++ [⟨[z], z.cells.length, false⟩], .none⟩ else none
omit [Orc] in
@[go_sem] theorem r_alloc {P : Program} {t : TypeId} {e : Env} {H : Heap} : opRun P (.alloc t) e H = (zeroV P t).bind fun z => alloc1 z H := by
  simp only [opRun]; cases zeroV P t <;> rfl
omit [Orc] in
@[go_sem] theorem alloc1_go {z : V} {H : Heap} (h : z.storable = true) : alloc1 z H = some ⟨.ptr H.length 1 0 0, H ++ [⟨[z], z.cells.length, false⟩], .none⟩ := by simp [alloc1, h]
def box1 (v : V) (H : Heap) : Option Res := if v.storable = true then some ⟨.ptr H.length 1 0 0, H ++ [⟨[v], v.cells.length, false⟩], .none⟩ else none
omit [Orc] in
@[go_sem] theorem r_box' {P : Program} {t : TypeId} {x : Operand} {e : Env} {H : Heap} : opRun P (.box t x) e H = (ev e x).bind fun v => box1 v H := r_box P t x e H
omit [Orc] in
@[go_sem] theorem box1_go {z : V} {H : Heap} (h : z.storable = true) : box1 z H = some ⟨.ptr H.length 1 0 0, H ++ [⟨[z], z.cells.length, false⟩], .none⟩ := by simp [box1, h]
def mkA : Option (List T) → List V → V
  | some ts, _ => .t (.agg ts)
  | none, cs => .agg cs
omit [Orc] in
@[go_sem] theorem mkAgg_A (cs : List V) : mkAgg cs = mkA (allT cs) cs := by unfold mkAgg mkA; cases allT cs <;> rfl
omit [Orc] in
@[go_sem] theorem mkA_some (ts cs) : mkA (some ts) cs = .t (.agg ts) := rfl
omit [Orc] in
@[go_sem] theorem mkA_none (cs) : mkA none cs = .agg cs := rfl
omit [Orc] in
@[go_sem] theorem allT_nil : allT [] = some [] := rfl
omit [Orc] in
@[go_sem] theorem allT_t (x r) : allT (.t x :: r) = (allT r).bind fun ts => some (x :: ts) := by
  show (allT r).map _ = _
  cases allT r <;> rfl
omit [Orc] in
@[go_sem] theorem allT_ex (x r) : allT (.ex x :: r) = none := rfl
omit [Orc] in
@[go_sem] theorem allT_ref (i n r) : allT (.ref i n :: r) = none := rfl
omit [Orc] in
@[go_sem] theorem allT_ptr (i n j o r) : allT (.ptr i n j o :: r) = none := rfl
omit [Orc] in
@[go_sem] theorem allT_fn (f a b r) : allT (.fn f a b :: r) = none := rfl
def plK (P : Program) (t : TypeId) : Kd → Option (Nat → Option (Nat × Nat))
  | .struct => (fldsOf P t).bind fun fl => some fun i => fl[i]?
  | .arr _ e => (infoOf P e).bind fun p => some fun i => some (i * p.1, p.1)
  | _ => none
omit [Orc] in
theorem plOf_K (P t) : plOf P t = plK P t (kdOf P t) := by
  unfold plOf plK
  cases kdOf P t with
  | struct => cases fldsOf P t <;> rfl
  | arr n e => simp only; cases infoOf P e <;> rfl
  | _ => rfl
omit [Orc] in
@[go_sem] theorem r_build {P : Program} {t : TypeId} {parts : List (Nat × Operand)} {e : Env} {H : Heap} : opRun P (.build t parts.toArray) e H = (evParts e parts).bind fun l => (zeroV P t).bind fun z => (plOf P t).bind fun pl => (placesV pl l).bind fun l => (fillV z.cells l).bind fun cs => some ⟨mkAgg cs, H, .none⟩ := by
  simp only [opRun, buildV]
  cases evParts e parts with
  | none => rfl
  | some l =>
    simp only [Option.bind_some, Option.bind_assoc]
    rfl
attribute [go_sem] plOf_K
omit [Orc] in
@[go_sem] theorem plK_struct {P t} : plK P t .struct = (fldsOf P t).bind fun fl => some fun i => fl[i]? := rfl
omit [Orc] in
@[go_sem] theorem plK_arr {P t n e} : plK P t (.arr n e) = (infoOf P e).bind fun p => some fun i => some (i * p.1, p.1) := rfl
omit [Orc] in
@[go_sem] theorem placesV_nil (pl) : placesV pl [] = some [] := rfl
omit [Orc] in
@[go_sem] theorem placesV_cons (pl i v r) : placesV pl ((i, v) :: r) = (pl i).bind fun p => (placesV pl r).bind fun l => some ((p.1, p.2, v) :: l) := rfl
omit [Orc] in
@[go_sem] theorem fillV_nil (cs) : fillV cs [] = some cs := rfl
omit [Orc] in
@[go_sem] theorem fillV_cons {cs off sz v r} (h1 : v.cells.length = sz) (h2 : off + sz ≤ cs.length) : fillV cs ((off, sz, v) :: r) = fillV (cs.take off ++ v.cells ++ cs.drop (off + sz)) r := by simp [fillV, h1, h2]
attribute [go_sem] List.take_succ_cons List.take_zero List.drop_succ_cons List.drop_zero Nat.zero_add Nat.add_zero List.append_nil
omit [Orc] in
@[go_sem] theorem cellsV_agg (cs) : (V.agg cs).cells = cs := rfl
omit [Orc] in
@[go_sem] theorem cellsV_tagg (cs) : (V.t (.agg cs)).cells = cs.map .t := rfl
omit [Orc] in
@[go_sem] theorem cellsV_nilp : (V.t .nilp).cells = [V.t .nilp] := rfl
omit [Orc] in
@[go_sem] theorem cellsV_nilf : (V.t .nilf).cells = [V.t .nilf] := rfl
omit [Orc] in
@[go_sem] theorem cellsV_nili : (V.t .nili).cells = [V.t .nili] := rfl
omit [Orc] in
@[go_sem] theorem cellsV_fnT (f) : (V.t (.fn f)).cells = [V.t (.fn f)] := rfl
omit [Orc] in
@[go_sem] theorem cellsV_fn (f a b) : (V.fn f a b).cells = [V.fn f a b] := rfl
omit [Orc] in
@[go_sem] theorem cellsV_ptr (a b c d) : (V.ptr a b c d).cells = [V.ptr a b c d] := rfl
def T.cell1 : T → Bool
  | .agg _ | .tup _ => false
  | _ => true
omit [Orc] in
theorem cell1_t (x : T) : V.cell1 (.t x) = T.cell1 x := by cases x <;> rfl
omit [Orc] in
@[go_sem] theorem stor_tagg (x : T) (cs : List T) : (V.t (.agg (x :: cs))).storable = (T.cell1 x && cs.all T.cell1) := by
  simp only [V.storable, V.cells, List.map_cons, List.isEmpty_cons, Bool.not_false, Bool.true_and, List.all_cons, cell1_t, List.all_map]
  congr 1
omit [Orc] in
@[go_sem] theorem stor_agg (x : V) (cs : List V) : (V.agg (x :: cs)).storable = (V.cell1 x && cs.all V.cell1) := rfl
attribute [go_sem] cell1_t List.all_cons List.all_nil
omit [Orc] in
@[go_sem] theorem cell1_int (k n) : T.cell1 (.int k n) = true := rfl
omit [Orc] in
@[go_sem] theorem cell1_bool (k) : T.cell1 (.bool k) = true := rfl
omit [Orc] in
@[go_sem] theorem cell1_str (k) : T.cell1 (.str k) = true := rfl
omit [Orc] in
@[go_sem] theorem cell1_sl (k) : T.cell1 (.sl k) = true := rfl
omit [Orc] in
@[go_sem] theorem cell1_fn (k) : T.cell1 (.fn k) = true := rfl
omit [Orc] in
@[go_sem] theorem cell1_nilp : T.cell1 .nilp = true := rfl
omit [Orc] in
@[go_sem] theorem cell1_nilf : T.cell1 .nilf = true := rfl
omit [Orc] in
@[go_sem] theorem cell1_nili : T.cell1 .nili = true := rfl
omit [Orc] in
@[go_sem] theorem cell1_lst {α : Type} [Enc α] (l : List α) : T.cell1 (enc l) = true := rfl
omit [Orc] in
@[go_sem] theorem cell1_ex (k) : V.cell1 (.ex k) = true := rfl
omit [Orc] in
@[go_sem] theorem cell1_ref (k n) : V.cell1 (.ref k n) = true := rfl
omit [Orc] in
@[go_sem] theorem cell1_ptr (k n i o) : V.cell1 (.ptr k n i o) = true := rfl
omit [Orc] in
@[go_sem] theorem cell1_fnV (k n i) : V.cell1 (.fn k n i) = true := rfl
def minT (op : Int → Int → Int) (x y : T) (H : Heap) : Option Res := match x, y with
  | .int k a, .int k' b => if k = k' then ret (.t (.int k (op a b))) H else none
  | _, _ => none
omit [Orc] in
@[go_sem] theorem minT_go {op k a b H} : minT op (.int k a) (.int k b) H = some ⟨.t (.int k (op a b)), H, .none⟩ := by simp [minT, ret]
omit [Orc] in
@[go_sem] theorem r_min {P : Program} {a b : Operand} {ts : Array TypeId} {e : Env} {H : Heap} : opRun P (.call { callee := .builtin .min, args := #[a, b], argTypes := ts }) e H = ((ev e a).bind tOf).bind fun x => ((ev e b).bind tOf).bind fun y => minT min x y H := by
  simp only [opRun, evs]
  cases ev e a with
  | none => cases ev e b <;> rfl
  | some v => cases ev e b with
    | none => cases v <;> rfl
    | some u =>
      cases v with
      | t x => cases u with
        | t y => cases x <;> cases y <;> rfl
        | _ => cases x <;> rfl
      | _ => cases u <;> rfl
omit [Orc] in
@[go_sem] theorem r_max {P : Program} {a b : Operand} {ts : Array TypeId} {e : Env} {H : Heap} : opRun P (.call { callee := .builtin .max, args := #[a, b], argTypes := ts }) e H = ((ev e a).bind tOf).bind fun x => ((ev e b).bind tOf).bind fun y => minT max x y H := by
  simp only [opRun, evs]
  cases ev e a with
  | none => cases ev e b <;> rfl
  | some v => cases ev e b with
    | none => cases v <;> rfl
    | some u =>
      cases v with
      | t x => cases u with
        | t y => cases x <;> cases y <;> rfl
        | _ => cases x <;> rfl
      | _ => cases u <;> rfl
def index1 (P : Program) (H : Heap) : Kd → V → Int → Option Res
  | .str, .t (.str s), n => if 0 ≤ n ∧ n < s.size then ret (.t (.int .u8 (s.get! n.toNat).toNat)) H else none
  | .arr len el, .t (.agg cs), n => if 0 ≤ n ∧ n < len ∧ (tyOf P el == some (false, 1)) = true then (cs[n.toNat]?).bind fun x => ret (.t x) H else none
  | .arr len el, .agg cs, n => if 0 ≤ n ∧ n < len ∧ (tyOf P el == some (false, 1)) = true then (cs[n.toNat]?).bind fun x => ret x H else none
  | _, _, _ => none
omit [Orc] in
@[go_sem] theorem r_index {P : Program} {t : TypeId} {x i : Operand} {e : Env} {H : Heap} : opRun P (.index t x i) e H = (ev e x).bind fun v => ((ev e i).bind asInt).bind fun n => index1 P H (kdOf P t) v n := by
  simp only [opRun]
  cases hx : ev e x with
  | none => cases kdOf P t <;> cases (ev e i).bind asInt <;> rfl
  | some v =>
    cases hi : (ev e i).bind asInt with
    | none => cases kdOf P t <;> cases v <;> first | rfl | (rename_i x; cases x <;> rfl)
    | some n => cases kdOf P t <;> cases v <;> first | rfl | (rename_i x; cases x <;> rfl)
omit [Orc] in
@[go_sem] theorem index1_str {P : Program} {H : Heap} {s : ByteArray} {n : Int} (h0 : 0 ≤ n) (h1 : n < s.size) : index1 P H .str (.t (.str s)) n = some ⟨.t (.int .u8 (s.get! n.toNat).toNat), H, .none⟩ := by simp [index1, h0, h1, ret]
omit [Orc] in
@[go_sem] theorem index1_arr {P : Program} {H : Heap} {len el : Nat} {cs : List T} {n : Int} (ht : tyOf P el = some (false, 1)) (h0 : 0 ≤ n) (h1 : n < len) : index1 P H (.arr len el) (.t (.agg cs)) n = (cs[n.toNat]?).bind fun x => some ⟨.t x, H, .none⟩ := by
  simp only [index1, ht, h0, h1, BEq.rfl, and_self, if_true]; rfl
omit [Orc] in
@[go_sem] theorem index1_arrV {P : Program} {H : Heap} {len el : Nat} {cs : List V} {n : Int} (ht : tyOf P el = some (false, 1)) (h0 : 0 ≤ n) (h1 : n < len) : index1 P H (.arr len el) (.agg cs) n = (cs[n.toNat]?).bind fun x => some ⟨x, H, .none⟩ := by
  simp only [index1, ht, h0, h1, BEq.rfl, and_self, if_true]; rfl
def mkFn (f : FuncId) : List V → List V → V
  | [], [] => .t (.fn f)
  | a, b => .fn f a b
omit [Orc] in
@[go_sem] theorem mkFn_0 (f) : mkFn f [] [] = .t (.fn f) := rfl
omit [Orc] in
@[go_sem] theorem mkFn_1 (f x a b) : mkFn f (x :: a) b = .fn f (x :: a) b := rfl
omit [Orc] in
@[go_sem] theorem mkFn_2 (f x b) : mkFn f [] (x :: b) = .fn f [] (x :: b) := rfl
omit [Orc] in
@[go_sem] theorem r_makeFunc {P : Program} {f : FuncId} {a b : List Operand} {e : Env} {H : Heap} : opRun P (.makeFunc (.func f) a.toArray b.toArray) e H = (evs e a).bind fun a => (evs e b).bind fun b => some ⟨mkFn f a b, H, .none⟩ := by
  simp only [opRun]
  cases evs e a with
  | none => cases evs e b <;> rfl
  | some a => cases evs e b with
    | none => cases a <;> rfl
    | some b => cases a <;> cases b <;> rfl
omit [Orc] in
theorem wrV_one {v u : V} {off : Nat} (h : u.cells.length = 1) : wrV v 1 0 u = some u := wr_whole h
omit [Orc] in
@[go_sem] theorem wrV_1 {v u : V} (h : u.cells.length = 1) : wrV v 1 0 u = some u := wr_whole h
omit [Orc] in
@[go_sem] theorem toT_ptr {H : Heap} {d id n i off : Nat} : toT H d (.ptr id n i off) = none := by cases d <;> rfl
omit [Orc] in
@[go_sem] theorem toT_fn {H : Heap} {d : Nat} {f : FuncId} {a b : List V} : toT H d (.fn f a b) = none := by cases d <;> rfl
end Go.Sim

namespace Go.Sim
open Enc (enc)
variable [Orc]
instance : Enc (Int × Int) := ⟨fun p => .agg [.int .i64 p.1, .int .i64 p.2], (0, 0), 2, by decide, fun _ => rfl⟩
omit [Orc] in
@[go_sem] theorem cells_pair (p : Int × Int) : (V.t (enc p)).cells = [.t (.int .i64 p.1), .t (.int .i64 p.2)] := rfl
omit [Orc] in
@[go_sem] theorem stor_pair (p : Int × Int) : (V.t (enc p)).storable = true := rfl
omit [Orc] in
@[go_sem] theorem isAgg_pair (p : Int × Int) : (V.t (enc p)).isAgg = true := rfl
omit [Orc] in
@[go_sem] theorem sz_pair : Enc.sz (Int × Int) = 2 := rfl
omit [Orc] in
@[go_sem] theorem fits_pair (p : Int × Int) : fits 2 (.t (enc p)) = true := rfl
omit [Orc] in
@[go_sem] theorem rd_pair (p : Int × Int) : rdV (.t (enc p)) 2 0 true 2 = some (.t (enc p)) := rfl
omit [Orc] in
@[go_sem] theorem ix_pair {H : Heap} {e : Nat} {l : List (Int × Int)} {i : Int} (h0 : 0 ≤ i) (h1 : i < l.length) : indexV H (.sl e) 2 (.t (enc l)) i = some (.tp (l.map enc) i.toNat 0) := ix_enc rfl h0 h1
omit [Orc] in
@[go_sem] theorem load_pair {H : Heap} {l : List (Int × Int)} {i off sz : Nat} {a : Bool} (h1 : i < l.length) : loadV H (some (a, sz)) (.tp (l.map enc) i off) = (rdV (.t (enc (gd l i))) 2 off a sz).bind fun u => some ⟨u, H, .none⟩ := load_tpc h1
omit [Orc] in
@[go_sem] theorem load1_pair {H : Heap} {id i off sz : Nat} {a : Bool} {l : List (Int × Int)} {st : Bool} (hi : i < l.length) : load1 H id ⟨vs l, 2, st⟩ i off a sz = (rdV (.t (enc (gd l i))) 2 off a sz).bind fun u => some ⟨u, H, .load id⟩ := load1_vsc hi
omit [Orc] in
@[go_sem] theorem fold_pair (l : List (Int × Int)) (a b : Int) : vs l ++ [V.t (.agg [.int .i64 a, .int .i64 b])] = vs (l ++ [(a, b)]) := by simp [vs]; rfl
omit [Orc] in
theorem agg_pair (a b : Int) : T.agg [.int .i64 a, .int .i64 b] = enc (a, b) := rfl

omit [Orc] in
@[go_sem] theorem fits_pairs (l : List (Int × Int)) : (vs l).all (fits 2) = true := by
  rw [List.all_eq_true]; intro v hv; obtain ⟨p, _, rfl⟩ := List.mem_map.1 hv; rfl
section
variable {α : Type} [Enc α]
def accV (id : Nat) (l : List α) : V := if l.isEmpty then .ex [] else .ref id l.length
def accO (l : List α) : Heap := if l.isEmpty then [] else [⟨vs l, Enc.sz α, false⟩]
def accE (id : Nat) (l : List α) : Eff := if l.isEmpty then .none else .grow id
omit [Orc] in
theorem accV_nil (id : Nat) : accV id ([] : List α) = .ex [] := rfl
omit [Orc] in
theorem accO_nil : accO ([] : List α) = [] := rfl
omit [Orc] in
theorem accV_ne {id : Nat} {l : List α} (h : l.isEmpty = false) : accV id l = .ref id l.length := by simp [accV, h]
omit [Orc] in
theorem accO_ne {l : List α} (h : l.isEmpty = false) : accO l = [⟨vs l, Enc.sz α, false⟩] := by simp [accO, h]
omit [Orc] in
theorem acc_get {R : Heap} {l : List α} (h : l.isEmpty = false) : (R ++ accO l)[R.length]? = some ⟨vs l, Enc.sz α, false⟩ := by
  rw [accO_ne h]; simp
omit [Orc] in
theorem acc_cur {R : Heap} {l : List α} (h : l.isEmpty = false) : cur (R ++ accO l) R.length l.length = some ⟨vs l, Enc.sz α, false⟩ := cur_some (acc_get h) (vs_len l)
omit [Orc] in
theorem acc_app {R : Heap} {l : List α} {x : α} {by_ : Nat} (hf : fits (Enc.sz α) (.t (enc x)) = true) (hr : (l.length + 1) * by_ ≤ 70368744177664) :
    appendV (some (Enc.sz α, by_)) (R ++ accO l) (accV R.length l) [.t (enc x)] = some ⟨accV R.length (l ++ [x]), R ++ accO (l ++ [x]), accE R.length l⟩ := by
  have ha : [V.t (enc x)].all (fits (Enc.sz α)) = true := by simp [hf]
  cases hl : l.isEmpty with
  | true =>
    have : l = [] := by simpa using hl
    subst this
    rw [accV_nil, accO_nil, List.append_nil, app_ex ha rfl rfl (by simpa using hr)]
    rfl
  | false =>
    have h2 : (l ++ [x]).isEmpty = false := by cases l <;> rfl
    rw [accV_ne hl, accV_ne h2, app_ref ha, acc_cur hl, Option.bind_some, app1_go rfl (by simpa using hr), accO_ne hl, accO_ne h2]
    simp only [set_concat, fold_enc, accE, hl, List.length_append, List.length_cons, List.length_nil, Bool.false_eq_true, if_false]
omit [Orc] in
theorem acc_apps {R : Heap} {l m : List α} {by_ : Nat} (hf : (vs m).all (fits (Enc.sz α)) = true) (hl : (vs l).all (fits (Enc.sz α)) = true) (hr : (l.length + m.length) * by_ ≤ 70368744177664) :
    appendV (some (Enc.sz α, by_)) (R ++ accO l) (accV R.length l) (vs m) = some ⟨accV R.length (l ++ m), R ++ accO (l ++ m), if m.isEmpty then .none else accE R.length l⟩ := by
  cases hm : m.isEmpty with
  | true =>
    have : m = [] := by simpa using hm
    subst this
    cases hl0 : l.isEmpty with
    | true =>
      have : l = [] := by simpa using hl0
      subst this
      rfl
    | false =>
      rw [accV_ne hl0, app_ref hf, acc_cur hl0]
      simp [app1, vs, ret, accV_ne hl0]
  | false =>
    have h0 : (vs m).isEmpty = false := by cases m <;> simp_all [vs]
    cases hl0 : l.isEmpty with
    | true =>
      have : l = [] := by simpa using hl0
      subst this
      rw [accV_nil, accO_nil, List.append_nil, app_ex hf h0 rfl (by simpa [vs_len] using hr)]
      simp [accV_ne hm, accO_ne hm, vs_len, accE]
    | false =>
      have h2 : (l ++ m).isEmpty = false := by cases l <;> simp_all
      rw [accV_ne hl0, accV_ne h2, app_ref hf, acc_cur hl0, Option.bind_some, app1_go h0 (by simpa [vs_len] using hr), accO_ne hl0, accO_ne h2]
      simp only [set_concat, vs_app, accE, hl0, List.length_append, vs_len, Bool.false_eq_true, if_false]
omit [Orc] in
theorem acc_toT {R : Heap} {l : List α} : toT (R ++ accO l) depth (accV R.length l) = some (enc l) := by
  cases hl : l.isEmpty with
  | true =>
    have : l = [] := by simpa using hl
    subst this
    rw [accV_nil, toT_ex]; rfl
  | false => rw [accV_ne hl, toT_ref', acc_cur hl, Option.bind_some, toTo_vs]
theorem acc_exp {R : Heap} {l : List α} : exportD (R ++ accO l) (accV R.length l) = some (.t (enc l)) := by
  cases hl : l.isEmpty with
  | true =>
    have : l = [] := by simpa using hl
    subst this
    rw [accV_nil, exportD_ex]; rfl
  | false => rw [accV_ne hl, exportD_ref, ← accV_ne hl, acc_toT, Option.bind_some]
omit [Orc] in
theorem acc_expV_e {H : Heap} {id : Nat} {l : List α} (h : l.isEmpty = true) : exportV H (accV id l) = some (.ex []) := by simp [accV, h, exportV]
omit [Orc] in
theorem acc_expV_n {R : Heap} {l : List α} (h : l.isEmpty = false) : exportV (R ++ accO l) (accV R.length l) = some (.fr (Enc.sz α) false (l.map enc)) := by
  rw [accV_ne h]; exact exportV_ref' (acc_get h) rfl
omit [Orc] in
theorem acc_len {R : Heap} {l : List α} {e : Nat} : lenT (R ++ accO l) (.sl e) (accV R.length l) = some ⟨.t (.int .i64 l.length), R ++ accO l, effL (accV R.length l)⟩ := by
  cases hl : l.isEmpty with
  | true =>
    have : l = [] := by simpa using hl
    subst this
    rfl
  | false => rw [accV_ne hl, lenT_ref, acc_cur hl]; rfl
end
section
variable {α : Type} [Enc α]
@[go_sem] theorem acc_app0 {l : List α} {x : α} {sz by_ : Nat} (hf : fits (Enc.sz α) (.t (enc x)) = true) (hs : sz = Enc.sz α) (hr : (l.length + 1) * by_ ≤ 70368744177664) :
    appendV (some (sz, by_)) (accO l) (accV 0 l) [.t (enc x)] = some ⟨accV 0 (l ++ [x]), (accO (l ++ [x])), accE 0 l⟩ := by subst hs; exact acc_app (R := []) hf hr
@[go_sem] theorem acc_toT0 {l : List α} : toT (accO l) depth (accV 0 l) = some (enc l) := acc_toT (R := [])
@[go_sem] theorem acc_exp0 {l : List α} : exportD (accO l) (accV 0 l) = some (.t (enc l)) := acc_exp (R := [])
@[go_sem] theorem acc_len0 {l : List α} {e : Nat} : lenT (accO l) (.sl e) (accV 0 l) = some ⟨.t (.int .i64 l.length), (accO l), effL (accV 0 l)⟩ := acc_len (R := [])
end
@[go_sem] theorem acc_int0 {l : List Int} {x : Int} {by_ : Nat} (hr : (l.length + 1) * by_ ≤ 70368744177664) :
    appendV (some (1, by_)) (accO l) (accV 0 l) [.t (.int .i64 x)] = some ⟨accV 0 (l ++ [x]), (accO (l ++ [x])), accE 0 l⟩ := acc_app (R := []) rfl hr
@[go_sem] theorem acc_u320 {l : List U32} {x : U32} {by_ : Nat} (hr : (l.length + 1) * by_ ≤ 70368744177664) :
    appendV (some (1, by_)) (accO l) (accV 0 l) [.t (.int .u32 (x.toNat : Int))] = some ⟨accV 0 (l ++ [x]), (accO (l ++ [x])), accE 0 l⟩ := acc_app (R := []) rfl hr
@[go_sem] theorem acc_pair0 {l : List (Int × Int)} {a c : Int} {by_ : Nat} (hr : (l.length + 1) * by_ ≤ 70368744177664) :
    appendV (some (2, by_)) (accO l) (accV 0 l) [.t (.agg [.int .i64 a, .int .i64 c])] = some ⟨accV 0 (l ++ [(a, c)]), (accO (l ++ [(a, c)])), accE 0 l⟩ := acc_app (x := (a, c)) (R := []) rfl hr
section
variable {α : Type} [Enc α] {o0 : Obj}
@[go_sem] theorem acc_app1 {l : List α} {x : α} {sz by_ : Nat} (hf : fits (Enc.sz α) (.t (enc x)) = true) (hs : sz = Enc.sz α) (hr : (l.length + 1) * by_ ≤ 70368744177664) :
    appendV (some (sz, by_)) (o0 :: accO l) (accV 1 l) [.t (enc x)] = some ⟨accV 1 (l ++ [x]), (o0 :: accO (l ++ [x])), accE 1 l⟩ := by subst hs; exact acc_app (R := [o0]) hf hr
@[go_sem] theorem acc_toT1 {l : List α} : toT (o0 :: accO l) depth (accV 1 l) = some (enc l) := acc_toT (R := [o0])
@[go_sem] theorem acc_exp1 {l : List α} : exportD (o0 :: accO l) (accV 1 l) = some (.t (enc l)) := acc_exp (R := [o0])
@[go_sem] theorem acc_len1 {l : List α} {e : Nat} : lenT (o0 :: accO l) (.sl e) (accV 1 l) = some ⟨.t (.int .i64 l.length), (o0 :: accO l), effL (accV 1 l)⟩ := acc_len (R := [o0])
end
@[go_sem] theorem acc_int1 {o0 : Obj} {l : List Int} {x : Int} {by_ : Nat} (hr : (l.length + 1) * by_ ≤ 70368744177664) :
    appendV (some (1, by_)) (o0 :: accO l) (accV 1 l) [.t (.int .i64 x)] = some ⟨accV 1 (l ++ [x]), (o0 :: accO (l ++ [x])), accE 1 l⟩ := acc_app (R := [o0]) rfl hr
@[go_sem] theorem acc_u321 {o0 : Obj} {l : List U32} {x : U32} {by_ : Nat} (hr : (l.length + 1) * by_ ≤ 70368744177664) :
    appendV (some (1, by_)) (o0 :: accO l) (accV 1 l) [.t (.int .u32 (x.toNat : Int))] = some ⟨accV 1 (l ++ [x]), (o0 :: accO (l ++ [x])), accE 1 l⟩ := acc_app (R := [o0]) rfl hr
@[go_sem] theorem acc_pair1 {o0 : Obj} {l : List (Int × Int)} {a c : Int} {by_ : Nat} (hr : (l.length + 1) * by_ ≤ 70368744177664) :
    appendV (some (2, by_)) (o0 :: accO l) (accV 1 l) [.t (.agg [.int .i64 a, .int .i64 c])] = some ⟨accV 1 (l ++ [(a, c)]), (o0 :: accO (l ++ [(a, c)])), accE 1 l⟩ := acc_app (x := (a, c)) (R := [o0]) rfl hr
section
variable {α : Type} [Enc α] {o0 : Obj} {o1 : Obj}
@[go_sem] theorem acc_app2 {l : List α} {x : α} {sz by_ : Nat} (hf : fits (Enc.sz α) (.t (enc x)) = true) (hs : sz = Enc.sz α) (hr : (l.length + 1) * by_ ≤ 70368744177664) :
    appendV (some (sz, by_)) (o0 :: o1 :: accO l) (accV 2 l) [.t (enc x)] = some ⟨accV 2 (l ++ [x]), (o0 :: o1 :: accO (l ++ [x])), accE 2 l⟩ := by subst hs; exact acc_app (R := [o0, o1]) hf hr
@[go_sem] theorem acc_toT2 {l : List α} : toT (o0 :: o1 :: accO l) depth (accV 2 l) = some (enc l) := acc_toT (R := [o0, o1])
@[go_sem] theorem acc_exp2 {l : List α} : exportD (o0 :: o1 :: accO l) (accV 2 l) = some (.t (enc l)) := acc_exp (R := [o0, o1])
@[go_sem] theorem acc_len2 {l : List α} {e : Nat} : lenT (o0 :: o1 :: accO l) (.sl e) (accV 2 l) = some ⟨.t (.int .i64 l.length), (o0 :: o1 :: accO l), effL (accV 2 l)⟩ := acc_len (R := [o0, o1])
end
@[go_sem] theorem acc_int2 {o0 : Obj} {o1 : Obj} {l : List Int} {x : Int} {by_ : Nat} (hr : (l.length + 1) * by_ ≤ 70368744177664) :
    appendV (some (1, by_)) (o0 :: o1 :: accO l) (accV 2 l) [.t (.int .i64 x)] = some ⟨accV 2 (l ++ [x]), (o0 :: o1 :: accO (l ++ [x])), accE 2 l⟩ := acc_app (R := [o0, o1]) rfl hr
@[go_sem] theorem acc_u322 {o0 : Obj} {o1 : Obj} {l : List U32} {x : U32} {by_ : Nat} (hr : (l.length + 1) * by_ ≤ 70368744177664) :
    appendV (some (1, by_)) (o0 :: o1 :: accO l) (accV 2 l) [.t (.int .u32 (x.toNat : Int))] = some ⟨accV 2 (l ++ [x]), (o0 :: o1 :: accO (l ++ [x])), accE 2 l⟩ := acc_app (R := [o0, o1]) rfl hr
@[go_sem] theorem acc_pair2 {o0 : Obj} {o1 : Obj} {l : List (Int × Int)} {a c : Int} {by_ : Nat} (hr : (l.length + 1) * by_ ≤ 70368744177664) :
    appendV (some (2, by_)) (o0 :: o1 :: accO l) (accV 2 l) [.t (.agg [.int .i64 a, .int .i64 c])] = some ⟨accV 2 (l ++ [(a, c)]), (o0 :: o1 :: accO (l ++ [(a, c)])), accE 2 l⟩ := acc_app (x := (a, c)) (R := [o0, o1]) rfl hr
section
variable {α : Type} [Enc α] {o0 : Obj} {o1 : Obj} {o2 : Obj}
@[go_sem] theorem acc_app3 {l : List α} {x : α} {sz by_ : Nat} (hf : fits (Enc.sz α) (.t (enc x)) = true) (hs : sz = Enc.sz α) (hr : (l.length + 1) * by_ ≤ 70368744177664) :
    appendV (some (sz, by_)) (o0 :: o1 :: o2 :: accO l) (accV 3 l) [.t (enc x)] = some ⟨accV 3 (l ++ [x]), (o0 :: o1 :: o2 :: accO (l ++ [x])), accE 3 l⟩ := by subst hs; exact acc_app (R := [o0, o1, o2]) hf hr
@[go_sem] theorem acc_toT3 {l : List α} : toT (o0 :: o1 :: o2 :: accO l) depth (accV 3 l) = some (enc l) := acc_toT (R := [o0, o1, o2])
@[go_sem] theorem acc_exp3 {l : List α} : exportD (o0 :: o1 :: o2 :: accO l) (accV 3 l) = some (.t (enc l)) := acc_exp (R := [o0, o1, o2])
@[go_sem] theorem acc_len3 {l : List α} {e : Nat} : lenT (o0 :: o1 :: o2 :: accO l) (.sl e) (accV 3 l) = some ⟨.t (.int .i64 l.length), (o0 :: o1 :: o2 :: accO l), effL (accV 3 l)⟩ := acc_len (R := [o0, o1, o2])
end
@[go_sem] theorem acc_int3 {o0 : Obj} {o1 : Obj} {o2 : Obj} {l : List Int} {x : Int} {by_ : Nat} (hr : (l.length + 1) * by_ ≤ 70368744177664) :
    appendV (some (1, by_)) (o0 :: o1 :: o2 :: accO l) (accV 3 l) [.t (.int .i64 x)] = some ⟨accV 3 (l ++ [x]), (o0 :: o1 :: o2 :: accO (l ++ [x])), accE 3 l⟩ := acc_app (R := [o0, o1, o2]) rfl hr
@[go_sem] theorem acc_u323 {o0 : Obj} {o1 : Obj} {o2 : Obj} {l : List U32} {x : U32} {by_ : Nat} (hr : (l.length + 1) * by_ ≤ 70368744177664) :
    appendV (some (1, by_)) (o0 :: o1 :: o2 :: accO l) (accV 3 l) [.t (.int .u32 (x.toNat : Int))] = some ⟨accV 3 (l ++ [x]), (o0 :: o1 :: o2 :: accO (l ++ [x])), accE 3 l⟩ := acc_app (R := [o0, o1, o2]) rfl hr
@[go_sem] theorem acc_pair3 {o0 : Obj} {o1 : Obj} {o2 : Obj} {l : List (Int × Int)} {a c : Int} {by_ : Nat} (hr : (l.length + 1) * by_ ≤ 70368744177664) :
    appendV (some (2, by_)) (o0 :: o1 :: o2 :: accO l) (accV 3 l) [.t (.agg [.int .i64 a, .int .i64 c])] = some ⟨accV 3 (l ++ [(a, c)]), (o0 :: o1 :: o2 :: accO (l ++ [(a, c)])), accE 3 l⟩ := acc_app (x := (a, c)) (R := [o0, o1, o2]) rfl hr
omit [Orc] in
@[go_sem] theorem sl_e0 : T.sl [] = enc ([] : List (Int × Int)) := rfl
omit [Orc] in
@[go_sem] theorem sl_e1 {α : Type} [Enc α] (a0 : α) : T.sl [enc a0] = enc [a0] := rfl
omit [Orc] in
@[go_sem] theorem sl_e2 {α : Type} [Enc α] (a0 a1 : α) : T.sl [enc a0, enc a1] = enc [a0, a1] := rfl
omit [Orc] in
@[go_sem] theorem sl_e3 {α : Type} [Enc α] (a0 a1 a2 : α) : T.sl [enc a0, enc a1, enc a2] = enc [a0, a1, a2] := rfl
omit [Orc] in
@[go_sem] theorem sl_e4 {α : Type} [Enc α] (a0 a1 a2 a3 : α) : T.sl [enc a0, enc a1, enc a2, enc a3] = enc [a0, a1, a2, a3] := rfl
omit [Orc] in
@[go_sem] theorem sl_e5 {α : Type} [Enc α] (a0 a1 a2 a3 a4 : α) : T.sl [enc a0, enc a1, enc a2, enc a3, enc a4] = enc [a0, a1, a2, a3, a4] := rfl
omit [Orc] in
@[go_sem] theorem sl_e6 {α : Type} [Enc α] (a0 a1 a2 a3 a4 a5 : α) : T.sl [enc a0, enc a1, enc a2, enc a3, enc a4, enc a5] = enc [a0, a1, a2, a3, a4, a5] := rfl
omit [Orc] in
@[go_sem] theorem sl_i1 (a0 : Int) : T.sl [.int .i64 a0] = enc [a0] := rfl
omit [Orc] in
@[go_sem] theorem sl_u1 (a0 : U32) : T.sl [.int .u32 (a0.toNat : Int)] = enc [a0] := rfl
omit [Orc] in
@[go_sem] theorem sl_i2 (a0 a1 : Int) : T.sl [.int .i64 a0, .int .i64 a1] = enc [a0, a1] := rfl
omit [Orc] in
@[go_sem] theorem sl_u2 (a0 a1 : U32) : T.sl [.int .u32 (a0.toNat : Int), .int .u32 (a1.toNat : Int)] = enc [a0, a1] := rfl
omit [Orc] in
@[go_sem] theorem sl_i3 (a0 a1 a2 : Int) : T.sl [.int .i64 a0, .int .i64 a1, .int .i64 a2] = enc [a0, a1, a2] := rfl
omit [Orc] in
@[go_sem] theorem sl_u3 (a0 a1 a2 : U32) : T.sl [.int .u32 (a0.toNat : Int), .int .u32 (a1.toNat : Int), .int .u32 (a2.toNat : Int)] = enc [a0, a1, a2] := rfl
omit [Orc] in
@[go_sem] theorem sl_i4 (a0 a1 a2 a3 : Int) : T.sl [.int .i64 a0, .int .i64 a1, .int .i64 a2, .int .i64 a3] = enc [a0, a1, a2, a3] := rfl
omit [Orc] in
@[go_sem] theorem sl_u4 (a0 a1 a2 a3 : U32) : T.sl [.int .u32 (a0.toNat : Int), .int .u32 (a1.toNat : Int), .int .u32 (a2.toNat : Int), .int .u32 (a3.toNat : Int)] = enc [a0, a1, a2, a3] := rfl
@[go_sem] theorem app_nil_pairs {H : Heap} {m : List (Int × Int)} {by_ : Nat} (hr : m.length * by_ ≤ 70368744177664) : appendV (some (2, by_)) H (.ex []) (vs m) = some ⟨accV H.length m, H ++ accO m, if m.isEmpty then .none else accE H.length ([] : List (Int × Int))⟩ := by
  have := acc_apps (R := H) (l := ([] : List (Int × Int))) (m := m) (by_ := by_) (fits_pairs m) rfl (by simpa using hr)
  rw [accV_nil, accO_nil, List.append_nil] at this
  exact this
@[go_sem] theorem app_acc_pairs0 {l m : List (Int × Int)} {by_ : Nat} (hr : (l.length + m.length) * by_ ≤ 70368744177664) : appendV (some (2, by_)) (accO l) (accV 0 l) (vs m) = some ⟨accV 0 (l ++ m), accO (l ++ m), if m.isEmpty then .none else accE 0 l⟩ :=
  acc_apps (R := []) (fits_pairs m) (fits_pairs l) hr
omit [Orc] in
@[go_sem] theorem cc_21 {R : Heap} {a b : Obj} : (R ++ [a] ++ [b])[R.length + 1]? = some b := by simp
omit [Orc] in
@[go_sem] theorem cc_20 {R : Heap} {a b : Obj} : (R ++ [a] ++ [b])[R.length]? = some a := by simp
omit [Orc] in
@[go_sem] theorem cs_21 {R : Heap} {a b o : Obj} : (R ++ [a] ++ [b]).set (R.length + 1) o = R ++ [a] ++ [o] := by simp [List.set_append]
omit [Orc] in
@[go_sem] theorem cs_20 {R : Heap} {a b o : Obj} : (R ++ [a] ++ [b]).set R.length o = R ++ [o] ++ [b] := by simp [List.set_append]
end Go.Sim

namespace Go.Sim
open Enc (enc)

def setsC : Code → Nat → Bool
  | .region _ ops _, t => ops.toList.any fun o => match o.dst with | some d => d == t | none => false
  | .seq a b, t => setsC a t || setsC b t
  | .cond _ a b, t => setsC a t || setsC b t
  | .block _ b, t => setsC b t
  | .loop b, t => setsC b t
  | .scope b, t => setsC b t
  | _, _ => false

theorem opsRun_frame {P : Program} {c : CallFn} {ops : Array Oper} {t : Nat} : ∀ {l : List Oper} {e : Env} {H : Heap} {lg : Log} {e' : Env} {H' : Heap} {lg' : Log},
    opsRun P c ops l e H lg = some (e', H', lg') → (l.any fun o => match o.dst with | some d => d == t | none => false) = false → e' t = e t := by
  intro l
  induction l with
  | nil => intro e H lg e' H' lg' h _; simp [opsRun] at h; rw [h.1]
  | cons o l ih =>
    intro e H lg e' H' lg' h hn
    simp only [List.any_cons, Bool.or_eq_false_iff] at hn
    have hp : ∀ v, putO e o.dst v t = e t := by
      intro v
      cases hd : o.dst with
      | none => rfl
      | some d =>
        have : d ≠ t := by simpa [hd] using hn.1
        simp [putO, put, this.symm]
    simp only [opsRun] at h
    split at h
    · split at h
      · rw [ih h hn.2, hp]
      · cases h
    · rw [ih h hn.2, hp]
    · cases h

theorem codeRun_frame [Orc] {P : Program} {c : CallFn} {m : Nat} {t : Nat} : ∀ (code : Code) {e : Env} {H : Heap} {x : X} {e' : Env} {H' : Heap},
    codeRun P c m code e H = some (x, e', H') → setsC code t = false → e' t = e t := by
  intro code
  induction code with
  | region id ops d =>
    intro e H x e' H' h hn
    cases d with
    | false =>
      simp only [codeRun, Option.map_eq_some_iff] at h
      obtain ⟨⟨e1, H1, lg⟩, h1, h2⟩ := h
      simp only [Prod.mk.injEq] at h2
      obtain ⟨_, rfl, rfl⟩ := h2
      exact opsRun_frame h1 hn
    | true =>
      simp only [codeRun] at h
      split at h
      · rename_i e1 H1 lg h1
        split at h
        · simp only [Option.some.injEq, Prod.mk.injEq] at h
          obtain ⟨_, rfl, rfl⟩ := h
          exact opsRun_frame h1 hn
        · cases h
      · cases h
  | seq a b iha ihb =>
    intro e H x e' H' h hn
    simp only [setsC, Bool.or_eq_false_iff] at hn
    simp only [codeRun] at h
    split at h
    · rename_i e1 H1 h1
      rw [ihb h hn.2, iha h1 hn.1]
    · rename_i hne
      exact iha h hn.1
  | cond q a b iha ihb =>
    intro e H x e' H' h hn
    simp only [setsC, Bool.or_eq_false_iff] at hn
    simp only [codeRun] at h
    split at h
    · exact iha h hn.1
    · exact ihb h hn.2
    · cases h
  | block id b ih =>
    intro e H x e' H' h hn
    simp only [codeRun] at h
    split at h
    · rename_i id' e1 H1 h1
      have := ih h1 hn
      split at h
      · simp only [Option.some.injEq, Prod.mk.injEq] at h
        obtain ⟨_, rfl, rfl⟩ := h; exact this
      · simp only [Option.some.injEq, Prod.mk.injEq] at h
        obtain ⟨_, rfl, rfl⟩ := h; exact this
    · exact ih h hn
  | loop b ih =>
    intro e H x e' H' h hn
    simp only [codeRun] at h
    have key : ∀ k e H, iter (codeRun P c m b) k e H = some (x, e', H') → e' t = e t := by
      intro k
      induction k with
      | zero => intro e H h; simp [iter] at h
      | succ k ihk =>
        intro e H h
        simp only [iter] at h
        split at h
        · rename_i e1 H1 h1
          rw [ihk _ _ h, ih h1 hn]
        · exact ih h hn
    exact key m e H h
  | scope b ih =>
    intro e H x e' H' h hn
    simp only [codeRun] at h
    exact ih h hn
  | rangeFunc g ps a b =>
    intro e H x e' H' h _
    simp only [codeRun] at h
    split at h
    · split at h
      · split at h
        · simp only [Option.map_eq_some_iff, Prod.mk.injEq] at h
          obtain ⟨_, _, _, rfl, _⟩ := h
          rfl
        · cases h
      · cases h
    · cases h
  | skip => intro e H x e' H' h _; simp [codeRun] at h; rw [h.2.1]
  | label => intro e H x e' H' h _; simp [codeRun] at h; rw [h.2.1]
  | exit => intro e H x e' H' h _; simp [codeRun] at h; rw [h.2.1]
  | ret => intro e H x e' H' h _; simp [codeRun] at h; rw [h.2.1]
  | _ => intro e H x e' H' h _; simp [codeRun] at h

def keepP (e e0 : Env) : List Nat → Prop
  | [] => True
  | t :: r => e t = e0 t ∧ keepP e e0 r

theorem keepP_refl (e : Env) : ∀ l, keepP e e l
  | [] => trivial
  | _ :: r => ⟨rfl, keepP_refl e r⟩
theorem keepP_frame {e e' e0 : Env} {f : Nat → Bool} (h : ∀ t, f t = false → e' t = e t) : ∀ {l : List Nat}, l.all (fun t => !f t) = true → keepP e e0 l → keepP e' e0 l
  | [], _, _ => trivial
  | t :: r, hl, hk => by
    simp only [List.all_cons, Bool.and_eq_true, Bool.not_eq_true'] at hl
    exact ⟨(h t hl.1).trans hk.1, keepP_frame h hl.2 hk.2⟩

variable [Orc]

theorem loop_kinv {P : Program} {b : Code} {Q : Kx} {σ : Type} (K : List Nat) (hK : K.all (fun t => !setsC b t) = true) (I : σ → Env → Heap → Prop) (μ : σ → Nat) {e0 : Env} {H0 : Heap} {s0 : σ}
    (h : ∀ s e H, keepP e e0 K → I s e H → @C _ P ⟨b⟩ e H ⟨thenX (Nxt I μ s) Q.k⟩) (h0 : I s0 e0 H0) : @C _ P ⟨.loop b⟩ e0 H0 Q := by
  refine loop_inv (fun s e H => keepP e e0 K ∧ I s e H) μ ?_ s0 e0 H0 ⟨keepP_refl _ _, h0⟩
  rintro s e H ⟨hk, hI⟩
  obtain ⟨k, x, e', H', hr, hx⟩ := h s e H hk hI
  refine ⟨k, x, e', H', hr, ?_⟩
  cases x with
  | n =>
    obtain ⟨s', h1, h2⟩ := hx
    exact ⟨s', h1, keepP_frame (fun t ht => codeRun_frame b hr ht) hK hk, h2⟩
  | exit id => exact hx
  | ret => exact hx

theorem loop_k {P : Program} {b : Code} {Q : Kx} {n : Nat} (K : List Nat) (hK : K.all (fun t => !setsC b t) = true) (I : Nat → Env → Heap → Prop) {e0 : Env} {H0 : Heap}
    (h : ∀ i e H, i ≤ n → keepP e e0 K → I i e H → @C _ P ⟨b⟩ e H ⟨thenX (fun e' H' => i < n ∧ I (i + 1) e' H') Q.k⟩) (h0 : I 0 e0 H0) : @C _ P ⟨.loop b⟩ e0 H0 Q := by
  refine loop_kinv K hK (fun i e H => i ≤ n ∧ I i e H) (fun i => n - i) (s0 := 0) ?_ ⟨Nat.zero_le _, h0⟩
  rintro i e H hk ⟨hi, hI⟩
  refine CW.mono (h i e H hi hk hI) ?_
  intro x e' H' hx
  cases x with
  | n => exact ⟨i + 1, by have := hx.1; show n - (i + 1) < n - i; omega, by have := hx.1; omega, hx.2⟩
  | exit id => exact hx
  | ret => exact hx

@[go_sem] theorem noSl_agg (cs) : noSl (.t (.agg cs)) = false := rfl

omit [Orc] in
@[go_sem] theorem wrV_part0 {v u : V} {esz : Nat} (h0 : u.cells.length < esz) (h : u.cells.length ≤ v.cells.length) : wrV v esz 0 u = some (mkAgg (u.cells ++ v.cells.drop u.cells.length)) := by
  have : ¬ u.cells.length = esz := by omega
  simp [wrV, this, h]

omit [Orc] in
@[go_sem] theorem eq_nn : binT .eql .fn .nilf .nilf = some (.bool true) := rfl
omit [Orc] in
@[go_sem] theorem eq_fn {f} : binT .eql .fn (.fn f) .nilf = some (.bool false) := rfl
omit [Orc] in
@[go_sem] theorem ne_nn : binT .neq .fn .nilf .nilf = some (.bool false) := rfl
omit [Orc] in
@[go_sem] theorem ne_fn {f} : binT .neq .fn (.fn f) .nilf = some (.bool true) := rfl

def extr (H : Heap) (i : Nat) : V → Option Res
  | .tup vs => (vs[i]?).bind (ret · H)
  | .t (.tup vs) => (vs[i]?).bind (fun x => ret (.t x) H)
  | _ => none
omit [Orc] in
@[go_sem] theorem r_extract {P : Program} {x : Operand} {i : Nat} {e : Env} {H : Heap} : opRun P (.extract x i) e H = (ev e x).bind (extr H i) := by
  simp only [opRun]
  cases ev e x with
  | none => rfl
  | some v => cases v with
    | t y => cases y <;> rfl
    | _ => rfl
omit [Orc] in
@[go_sem] theorem extr_0 {H : Heap} {v : V} {r : List V} : extr H 0 (.tup (v :: r)) = some ⟨v, H, .none⟩ := rfl
omit [Orc] in
@[go_sem] theorem extr_1 {H : Heap} {u v : V} {r : List V} : extr H 1 (.tup (u :: v :: r)) = some ⟨v, H, .none⟩ := rfl
omit [Orc] in
@[go_sem] theorem extr_2 {H : Heap} {w u v : V} {r : List V} : extr H 2 (.tup (w :: u :: v :: r)) = some ⟨v, H, .none⟩ := rfl
omit [Orc] in
@[go_sem] theorem extr_3 {H : Heap} {z w u v : V} {r : List V} : extr H 3 (.tup (z :: w :: u :: v :: r)) = some ⟨v, H, .none⟩ := rfl

theorem orc_fun {P : Program} {f : FuncId} {ts : List T} {v u : V} {H : Heap} (hh : Orc.has f = true) (hr : Orc.run f (ts.map .t) [] = some (v, H)) (he : exportB (isFresh P f) H v = some u) : Fun P f ts u :=
  ⟨1, v, H, by simp only [funRun, hh, if_true, hr], he⟩
def noSl1 : V → Bool
  | .t x => (match x with | .int .. | .bool _ | .str _ | .nilp | .nilf | .nili => true | _ => false)
  | _ => false
omit [Orc] in
@[go_sem] theorem noSl_tup (vs : List V) : noSl (.tup vs) = vs.all noSl1 := by
  show vs.all _ = vs.all _
  congr 1
omit [Orc] in
@[go_sem] theorem noSl1_int (k n) : noSl1 (.t (.int k n)) = true := rfl
omit [Orc] in
@[go_sem] theorem noSl1_bool (n) : noSl1 (.t (.bool n)) = true := rfl
omit [Orc] in
@[go_sem] theorem noSl1_str (n) : noSl1 (.t (.str n)) = true := rfl
omit [Orc] in
@[go_sem] theorem noSl1_enc {α : Type} [Enc α] (l : List α) : noSl1 (.t (enc l)) = false := rfl
omit [Orc] in
@[go_sem] theorem noSl1_agg (n) : noSl1 (.t (.agg n)) = false := rfl
omit [Orc] in
@[go_sem] theorem noSl1_sl (n) : noSl1 (.t (.sl n)) = false := rfl
omit [Orc] in
@[go_sem] theorem noSl1_ex (n) : noSl1 (.ex n) = false := rfl
omit [Orc] in
@[go_sem] theorem noSl_fnT (f) : noSl (.t (.fn f)) = false := rfl
omit [Orc] in
@[go_sem] theorem noSl_nilf : noSl (.t .nilf) = true := rfl

theorem Fun.goX {P : Program} {f : FuncId} {fn : Func} {c : Code} {rs : List ResultVar} {ts : List T} {R : V → Prop} (hf : P.funcs[f]? = some fn) (hb : fn.body = some c) (hr : fn.results = rs.toArray) {b : Bool} (hfr : isFresh P f = b) (hk : fnOk drawOk fn = true)
    (h : @C _ P ⟨c⟩ (enter (ts.map .t)) [] ⟨fun x e H => okX x ∧ @bnd V ((resVs P e H rs).bind fun vs => exportB b H (one vs)) ⟨R⟩⟩) (ho : Orc.has f = false := by rfl) : ∃ u, Fun P f ts u ∧ R u := by
  obtain ⟨k, x, e, H, h1, hx, u, h2, h3⟩ := h
  exact ⟨u, Fun.go hf hb hr hfr hk ⟨k, x, e, H, h1, hx, h2⟩ ho, h3⟩
theorem FunH.goX {P : Program} {f : FuncId} {fn : Func} {c : Code} {rs : List ResultVar} {vs : List V} {H : Heap} {R : V → Heap → Prop} (hf : P.funcs[f]? = some fn) (hb : fn.body = some c) (hr : fn.results = rs.toArray) (hk : fnOk drawOk fn = true)
    (h : @C _ P ⟨c⟩ (enter vs) H ⟨fun x e H1 => okX x ∧ @bnd V ((resVs P e H1 rs).bind fun vs => some (one vs)) ⟨fun u => R u H1⟩⟩) (ho : Orc.has f = false := by rfl) : ∃ u H', FunH P f vs H u H' ∧ R u H' := by
  obtain ⟨k, x, e, H1, h1, hx, u, h2, h3⟩ := h
  rw [Option.bind_eq_some_iff] at h2
  obtain ⟨us, h4, h5⟩ := h2
  simp only [Option.some.injEq] at h5
  exact ⟨u, H1, FunH.go hf hb hr hk ⟨k, x, e, H1, h1, hx, by rw [h4]; simp [h5]⟩ ho, h3⟩

def nilC (H : Heap) : V → Option Res
  | .ptr id n i off => ret (.ptr id n i off) H
  | .tp xs i off => ret (.tp xs i off) H
  | .t (.fn f) => ret (.t (.fn f)) H
  | .fn f a b => ret (.fn f a b) H
  | _ => none
omit [Orc] in
@[go_sem] theorem r_nilCheck {P : Program} {x : Operand} {e : Env} {H : Heap} : opRun P (.nilCheck x) e H = (ev e x).bind (nilC H) := by
  simp only [opRun]
  cases ev e x with
  | none => rfl
  | some v => cases v with
    | t y => cases y <;> rfl
    | _ => rfl
omit [Orc] in
@[go_sem] theorem nilC_ptr {H id n i off} : nilC H (.ptr id n i off) = some ⟨.ptr id n i off, H, .none⟩ := rfl
omit [Orc] in
@[go_sem] theorem nilC_tp {H xs i off} : nilC H (.tp xs i off) = some ⟨.tp xs i off, H, .none⟩ := rfl
omit [Orc] in
@[go_sem] theorem nilC_fn {H f} : nilC H (.t (.fn f)) = some ⟨.t (.fn f), H, .none⟩ := rfl
omit [Orc] in
@[go_sem] theorem nilC_fnc {H f a b} : nilC H (.fn f a b) = some ⟨.fn f a b, H, .none⟩ := rfl
omit [Orc] in
theorem gx0 {A l : Heap} : (A ++ l)[A.length]? = l[0]? := by rw [List.getElem?_append_right (Nat.le_refl _), Nat.sub_self]
omit [Orc] in
theorem gxk {A l : Heap} {k : Nat} : (A ++ l)[A.length + k]? = l[k]? := by rw [List.getElem?_append_right (by omega)]; congr 1; omega
omit [Orc] in
theorem sx0 {A l : Heap} {o : Obj} : (A ++ l).set A.length o = A ++ l.set 0 o := by rw [List.set_append_right _ _ (Nat.le_refl _), Nat.sub_self]
omit [Orc] in
theorem sxk {A l : Heap} {k : Nat} {o : Obj} : (A ++ l).set (A.length + k) o = A ++ l.set k o := by rw [List.set_append_right _ _ (by omega)]; congr 2; omega

omit [Orc] in
@[go_sem] theorem rd_part {v : V} {esz off sz : Nat} (h0 : 0 < off) (h : off + sz ≤ v.cells.length) : rdV v esz off true sz = some (mkAgg ((v.cells.drop off).take sz)) := by
  have : ¬ off = 0 := by omega
  simp [rdV, this, h]
omit [Orc] in
@[go_sem] theorem rd_part0 {v : V} {esz sz : Nat} (h0 : sz < esz) (h : sz ≤ v.cells.length) : rdV v esz 0 true sz = some (mkAgg (v.cells.take sz)) := by
  have : ¬ sz = esz := by omega
  simp [rdV, this, h]
theorem F_of {P : Program} {f : FuncId} {vs : List V} {H : Heap} {K : Kv} {R : V → Heap → Prop} (h : ∃ u H', FunH P f vs H u H' ∧ R u H') (hn : toTs H vs = none) (hu : ∀ u H', R u H' → u.isDead = false) (k : ∀ u H', R u H' → K.k u H' (.ran H H')) : @F _ P f vs H K := by
  obtain ⟨u, H', h1, h2⟩ := h
  exact (Comes.heap hn h1 (hu u H' h2)).go (k u H' h2)

omit [Orc] in
@[go_sem] theorem beq_tf : (true == false) = false := rfl
omit [Orc] in
@[go_sem] theorem beq_ft : (false == true) = false := rfl

omit [Orc] in
@[go_sem] theorem rd_agg {cs : List V} {sz : Nat} : rdV (.agg cs) sz 0 true sz = some (.agg cs) := by simp [rdV, V.isAgg]
def toTsd (H : Heap) (d : Nat) : List V → Option (List T)
  | [] => some []
  | v :: r => (toT H d v).bind fun x => (toTsd H d r).bind fun xs => some (x :: xs)
omit [Orc] in
theorem toTsd_eq {H : Heap} {d : Nat} : ∀ {vs : List V}, toTsd H d vs = vs.mapM (toT H d)
  | [] => rfl
  | v :: r => by
    have ih := toTsd_eq (H := H) (d := d) (vs := r)
    rw [List.mapM_cons, ← ih]
    show ((toT H d v).bind fun x => (toTsd H d r).bind fun xs => some (x :: xs)) = _
    generalize toTsd H d r = z
    cases toT H d v <;> cases z <;> rfl
omit [Orc] in
@[go_sem] theorem toTsd_nil (H d) : toTsd H d [] = some [] := rfl
omit [Orc] in
@[go_sem] theorem toTsd_cons (H d v r) : toTsd H d (v :: r) = (toT H d v).bind fun x => (toTsd H d r).bind fun xs => some (x :: xs) := rfl
omit [Orc] in
@[go_sem] theorem toT_agg4 {H : Heap} {cs : List V} : toT H depth (.agg cs) = (toTsd H 3 cs).bind fun ts => some (.agg ts) := by
  show (cs.mapM (toT H 3)).map T.agg = _
  rw [toTsd_eq]; cases cs.mapM (toT H 3) <;> rfl
def toTo2 (H : Heap) (o : Obj) : Option T := (o.el.mapM (toT H 2)).map T.sl
omit [Orc] in
@[go_sem] theorem toT3_ref {H : Heap} {id n : Nat} : toT H 3 (.ref id n) = (cur H id n).bind (toTo2 H) := by
  show (match cur H id n with | some o => (o.el.mapM (toT H 2)).map T.sl | none => none) = _
  cases cur H id n <;> rfl
omit [Orc] in
@[go_sem] theorem toTo2_vs {α : Type} [Enc α] {H : Heap} {l : List α} {esz : Nat} {st : Bool} : toTo2 H ⟨vs l, esz, st⟩ = some (enc l) := by
  simp only [toTo2]; rw [← map_t_enc, mapM_t]; rfl

omit [Orc] in
theorem toTs_none {H : Heap} {v : V} : ∀ {l : List V}, v ∈ l → toT H depth v = none → toTs H l = none
  | [], h, _ => by cases h
  | a :: r, h, hn => by
    rw [toTs_cons]
    rcases List.mem_cons.1 h with rfl | h
    · rw [hn]; rfl
    · rw [toTs_none h hn]
      cases toT H depth a <;> rfl

omit [Orc] in
@[go_sem] theorem stor_nilf : (V.t .nilf).storable = true := rfl
omit [Orc] in
@[go_sem] theorem stor_nilp : (V.t .nilp).storable = true := rfl
omit [Orc] in
@[go_sem] theorem stor_nili : (V.t .nili).storable = true := rfl
omit [Orc] in
@[go_sem] theorem stor_fnT (f) : (V.t (.fn f)).storable = true := rfl
omit [Orc] in
@[go_sem] theorem stor_fnc (f a b) : (V.fn f a b).storable = true := rfl
omit [Orc] in
@[go_sem] theorem stor_ptr (a b c d) : (V.ptr a b c d).storable = true := rfl

def slK (H : Heap) (sz : Nat) : Kd → V → Option V → Option V → Option V → Option Res
  | .str, .t (.str s), l, h, m => partS H s l h m
  | .sl _, v, l, h, m => partV H sz v l h m
  | .arr n _, .ptr id k i off, none, none, none => arrSl H n sz id k i off
  | _, _, _, _, _ => none
omit [Orc] in
@[go_sem] theorem r_slice {P : Program} {t : TypeId} {x : Operand} {lo hi mx : Option Operand} {e : Env} {H : Heap} :
    opRun P (.slice t x lo hi mx) e H = (ev e x).bind fun v => (optEv e lo).bind fun l => (optEv e hi).bind fun h => (optEv e mx).bind fun m => if cutTy P t = true then cutR H v l h m else slK H (elemSz P (kdOf P t)) (kdOf P t) v l h m := by
  simp only [opRun]
  by_cases hct : cutTy P t = true
  · simp only [hct, if_true]
  simp only [hct, if_false]
  cases hk : kdOf P t <;> cases hx : ev e x <;> cases hl : optEv e lo <;> cases hh : optEv e hi <;> cases hm : optEv e mx <;> simp only [Option.bind_some, Option.bind_none] <;> first
    | rfl
    | (rename_i v l h m; cases v <;> first | rfl | (rename_i y; cases y <;> rfl))
    | (rename_i v l h m; cases v <;> cases l <;> cases h <;> cases m <;> rfl)
omit [Orc] in
@[go_sem] theorem optEv_none (e) : optEv e none = some none := rfl
omit [Orc] in
@[go_sem] theorem optEv_some (e x) : optEv e (some x) = (ev e x).bind fun v => some (some v) := by
  show (ev e x).map some = _
  cases ev e x <;> rfl
omit [Orc] in
@[go_sem] theorem slK_str {H sz s l h m} : slK H sz .str (.t (.str s)) l h m = partS H s l h m := rfl
omit [Orc] in
@[go_sem] theorem slK_sl {H sz e v l h m} : slK H sz (.sl e) v l h m = partV H sz v l h m := by cases v <;> rfl
def arr2 (n sz : Nat) (xs : List T) (H : Heap) : Option Res := if sz = 1 ∧ 0 < n ∧ xs.length = n ∧ (xs.all fun x => (V.t x).cell1) = true then some ⟨.t (.sl xs), H, .none⟩ else none
def arr1 (H : Heap) (n sz id : Nat) (o : Obj) (i off : Nat) : Option Res := (o.el[i]?).bind fun v => (allT ((v.cells.drop off).take n)).bind fun xs => arr2 n sz xs (H.set id { o with st := true })
omit [Orc] in
@[go_sem] theorem slK_arr {H sz n e id k i off} : slK H sz (.arr n e) (.ptr id k i off) none none none = (cur H id k).bind fun o => arr1 H n sz id o i off := rfl
omit [Orc] in
@[go_sem] theorem arr1_one {H : Heap} {n sz id esz off : Nat} {v : V} {st : Bool} : arr1 H n sz id ⟨[v], esz, st⟩ 0 off = (allT ((v.cells.drop off).take n)).bind fun xs => arr2 n sz xs (H.set id ⟨[v], esz, true⟩) := rfl
omit [Orc] in
@[go_sem] theorem arr2_4 {H : Heap} {a b c d : Int} : arr2 4 1 [.int .i64 a, .int .i64 b, .int .i64 c, .int .i64 d] H = some ⟨.t (enc [a, b, c, d]), H, .none⟩ := rfl

omit [Orc] in
@[go_sem] theorem wrap_sub_B (x y : U32) : IntKind.u32.wrap ((x.toNat : Int) - (y.toNat : Int)) = ((x - y).toNat : Int) := by
  have hx := x.isLt; have hy := y.isLt
  rw [BitVec.toNat_sub]
  unfold IntKind.wrap
  simp [IntKind.bits, IntKind.signed]
  omega
omit [Orc] in
theorem at_all {R : Heap} {q : Nat} {o : Obj} (h : R[q]? = some o) (X : Heap) : (R ++ X)[q]? = some o := by
  have : q < R.length := by
    rcases Nat.lt_or_ge q R.length with h' | h'
    · exact h'
    · rw [List.getElem?_eq_none h'] at h; cases h
  rw [List.getElem?_append_left this]; exact h
omit [Orc] in
theorem at_lt {R : Heap} {q : Nat} {o : Obj} (h : R[q]? = some o) : q < R.length := by
  rcases Nat.lt_or_ge q R.length with h' | h'
  · exact h'
  · rw [List.getElem?_eq_none h'] at h; cases h

omit [Orc] in
theorem gxL0 {B R l : Heap} (h : B.length = R.length) : (B ++ l)[R.length]? = l[0]? := by rw [← h]; exact gx0
omit [Orc] in
theorem gxLk {B R l : Heap} {k : Nat} (h : B.length = R.length) : (B ++ l)[R.length + k]? = l[k]? := by rw [← h]; exact gxk
omit [Orc] in
theorem sxL0 {B R l : Heap} {o : Obj} (h : B.length = R.length) : (B ++ l).set R.length o = B ++ l.set 0 o := by rw [← h]; exact sx0
omit [Orc] in
theorem sxLk {B R l : Heap} {k : Nat} {o : Obj} (h : B.length = R.length) : (B ++ l).set (R.length + k) o = B ++ l.set k o := by rw [← h]; exact sxk

omit [Orc] in
@[go_sem] theorem partV_full {α : Type} [Enc α] {H : Heap} {sz : Nat} {l : List α} {k k' : IntKind} {n m : Int} (hs : 0 < sz) (hn : n = l.length) (hm : m = l.length) :
    partV H sz (.t (enc l)) none (some (.t (.int k n))) (some (.t (.int k' m))) = some ⟨.ex (l.map enc), H, .none⟩ := by
  subst hn hm
  have h1 : bound (some (.t (.int k (l.length : Int)))) (vs l).length = some l.length := by simp [bound]
  have h2 : bound (some (.t (.int k' (l.length : Int)))) (vs l).length = some l.length := by simp [bound]
  unfold partV
  rw [slOf_enc, toT_t, enc_list]
  simp only
  rw [h1, h2]
  simp only [bound]
  rw [if_pos ⟨Nat.zero_le _, Nat.le_refl _, by rw [vs_len]; exact Nat.le_refl _, by simp [vs_len], hs, rfl, .inl trivial⟩]
  simp [hold_t, effS, List.take_of_length_le]
omit [Orc] in
@[go_sem] theorem partV_ex {α : Type} [Enc α] {H : Heap} {sz : Nat} {l : List α} {k k' : IntKind} {n m : Int} (hs : 0 < sz) (hn : n = l.length) (hm : m = l.length) :
    partV H sz (.ex (l.map enc)) none (some (.t (.int k n))) (some (.t (.int k' m))) = some ⟨.ex (l.map enc), H, .none⟩ := by
  subst hn hm
  have e : ((l.map enc).map V.t).length = l.length := by simp
  have h1 : bound (some (.t (.int k (l.length : Int)))) ((l.map (enc : α → T)).map V.t).length = some l.length := by simp [bound]
  have h2 : bound (some (.t (.int k' (l.length : Int)))) ((l.map (enc : α → T)).map V.t).length = some l.length := by simp [bound]
  unfold partV
  rw [slOf_ex, toT_ex]
  simp only
  rw [h1, h2]
  simp only [bound]
  rw [if_pos ⟨Nat.zero_le _, Nat.le_refl _, by rw [e]; exact Nat.le_refl _, by simp, hs, rfl, .inl trivial⟩]
  simp [hold_ex, effS, List.take_of_length_le]
omit [Orc] in
@[go_sem] theorem lenT_exl {α : Type} [Enc α] {H : Heap} {e : Nat} {l : List α} : lenT H (.sl e) (.ex (l.map enc)) = some ⟨.t (.int .i64 l.length), H, .none⟩ := by
  show some _ = _; simp [effL]

def kindE : Eff → Nat
  | .none => 0
  | .load _ => 1
  | .grow _ => 2
  | .wild => 3
  | .bad => 4
  | .ran _ _ => 5
def kindL : Log → List (Option Tmp × Nat)
  | [] => []
  | (d, f) :: r => (d, kindE f) :: kindL r
def swK (a b : Nat) : Bool :=
  match a, b with
  | 1, 2 | 2, 1 | 1, 3 | 3, 1 | 4, 4 | 1, 5 | 5, 1 => false
  | _, _ => true
def optEq (a b : Option Tmp) : Bool := match a, b with | some x, some y => x == y | none, none => true | _, _ => false
def fineK (L : List (Option Tmp × Option Tmp × Bool × Bool)) (l : List (Option Tmp × Nat)) : Bool :=
  L.all fun p => l.all fun a => ((a.2 != 4) || ((a.1 != p.1 || p.2.2.2) && (a.1 != p.2.1 || p.2.2.1))) && l.all fun b => a.1 != p.1 || b.1 != p.2.1 || swK a.2 b.2
omit [Orc] in
theorem kindL_eq (l : Log) : kindL l = l.map fun a => (a.1, kindE a.2) := by
  induction l with
  | nil => rfl
  | cons a l ih => obtain ⟨d, f⟩ := a; simp [kindL, ih]
omit [Orc] in
theorem fineP_kind {ops : Array Oper} {lg : Log} (h : fineK (loosePairs ops) (kindL lg) = true) : FineP ops lg := by
  show Log.fine (loosePairs ops) lg = true
  unfold fineK at h
  unfold Log.fine
  rw [kindL_eq] at h
  simp only [List.all_map] at h
  rw [List.all_eq_true] at h ⊢
  intro p hp
  have h1 := h p hp
  rw [List.all_eq_true] at h1 ⊢
  intro a ha
  have h2 := h1 a ha
  simp only [Function.comp, Bool.and_eq_true] at h2 ⊢
  refine ⟨?_, ?_⟩
  · have := h2.1
    generalize ((a.1 != p.1 || p.2.2.2) && (a.1 != p.2.1 || p.2.2.1)) = z at this ⊢
    cases hf : a.2 <;> simp [hf, kindE, Eff.isBad] at this ⊢
    exact this
  · have h3 := h2.2
    rw [List.all_eq_true] at h3 ⊢
    intro b hb
    have h4 := h3 b hb
    simp only [Function.comp, Bool.or_eq_true] at h4 ⊢
    rcases h4 with h4 | h4
    · exact .inl h4
    · right
      cases ha' : a.2 <;> cases hb' : b.2 <;> simp [ha', hb', kindE, swK, Eff.swaps] at h4 ⊢

def loadsL : Log → List Nat
  | [] => []
  | (_, .load a) :: r => a :: loadsL r
  | _ :: r => loadsL r
def growsL : Log → List Nat
  | [] => []
  | (_, .grow a) :: r => a :: growsL r
  | _ :: r => growsL r
def ne1 (a : Nat) : List Nat → Prop
  | [] => True
  | b :: r => a ≠ b ∧ ne1 a r
def apart2 : List Nat → List Nat → Prop
  | [], _ => True
  | a :: r, l => ne1 a l ∧ apart2 r l
theorem ne1_mem {a : Nat} : ∀ {l : List Nat}, ne1 a l → ∀ b ∈ l, a ≠ b
  | [], _, b, hb => by cases hb
  | c :: r, h, b, hb => by
    rcases List.mem_cons.1 hb with rfl | hb
    · exact h.1
    · exact ne1_mem h.2 b hb
theorem apart2_mem : ∀ {k l : List Nat}, apart2 k l → ∀ a ∈ k, ∀ b ∈ l, a ≠ b
  | [], _, _, a, ha, _, _ => by cases ha
  | c :: r, l, h, a, ha, b, hb => by
    rcases List.mem_cons.1 ha with rfl | ha
    · exact ne1_mem h.1 b hb
    · exact apart2_mem h.2 a ha b hb
theorem loadsL_mem {a : Nat} {d : Option Tmp} : ∀ {l : Log}, (d, Eff.load a) ∈ l → a ∈ loadsL l
  | [], h => by cases h
  | (d', f) :: r, h => by
    rcases List.mem_cons.1 h with h | h
    · cases h; exact List.mem_cons_self
    · have := loadsL_mem h
      cases f <;> first | exact this | exact List.mem_cons_of_mem _ this
theorem growsL_mem {a : Nat} {d : Option Tmp} : ∀ {l : Log}, (d, Eff.grow a) ∈ l → a ∈ growsL l
  | [], h => by cases h
  | (d', f) :: r, h => by
    rcases List.mem_cons.1 h with h | h
    · cases h; exact List.mem_cons_self
    · have := growsL_mem h
      cases f <;> first | exact this | exact List.mem_cons_of_mem _ this
def swK2 (a b : Nat) : Bool :=
  match a, b with
  | 1, 3 | 3, 1 | 4, 4 | 1, 5 | 5, 1 => false
  | _, _ => true
def fineK2 (L : List (Option Tmp × Option Tmp × Bool × Bool)) (l : List (Option Tmp × Nat)) : Bool :=
  L.all fun p => l.all fun a => ((a.2 != 4) || ((a.1 != p.1 || p.2.2.2) && (a.1 != p.2.1 || p.2.2.1))) && l.all fun b => a.1 != p.1 || b.1 != p.2.1 || swK2 a.2 b.2
theorem fineP_apart {ops : Array Oper} {lg : Log} (h : fineK2 (loosePairs ops) (kindL lg) = true) (h2 : apart2 (loadsL lg) (growsL lg)) : FineP ops lg := by
  show Log.fine (loosePairs ops) lg = true
  unfold fineK2 at h
  unfold Log.fine
  rw [kindL_eq] at h
  simp only [List.all_map] at h
  rw [List.all_eq_true] at h ⊢
  intro p hp
  have h1 := h p hp
  rw [List.all_eq_true] at h1 ⊢
  intro a ha
  have h2' := h1 a ha
  simp only [Function.comp, Bool.and_eq_true] at h2' ⊢
  refine ⟨?_, ?_⟩
  · have := h2'.1
    generalize ((a.1 != p.1 || p.2.2.2) && (a.1 != p.2.1 || p.2.2.1)) = z at this ⊢
    cases hf : a.2 <;> simp [hf, kindE, Eff.isBad] at this ⊢
    exact this
  · have h3 := h2'.2
    rw [List.all_eq_true] at h3 ⊢
    intro b hb
    have h4 := h3 b hb
    simp only [Function.comp, Bool.or_eq_true] at h4 ⊢
    rcases h4 with h4 | h4
    · exact .inl h4
    · right
      obtain ⟨da, fa⟩ := a
      obtain ⟨db, fb⟩ := b
      cases fa <;> cases fb <;> simp [kindE, swK2, Eff.swaps] at h4 ⊢
      · rename_i x y
        exact apart2_mem h2 x (loadsL_mem ha) y (growsL_mem hb)
      · rename_i x y
        exact (apart2_mem h2 y (loadsL_mem hb) x (growsL_mem ha)).symm
def ransL : Log → List (Heap × Heap)
  | [] => []
  | (_, .ran H H1) :: r => (H, H1) :: ransL r
  | _ :: r => ransL r
def sp1 (a : Nat) : List (Heap × Heap) → Prop
  | [] => True
  | (H, H1) :: r => H1[a]? = H[a]? ∧ sp1 a r
def spared : List Nat → List (Heap × Heap) → Prop
  | [], _ => True
  | a :: r, l => sp1 a l ∧ spared r l
theorem sp1_mem {a : Nat} : ∀ {l : List (Heap × Heap)}, sp1 a l → ∀ b ∈ l, b.2[a]? = b.1[a]?
  | [], _, b, hb => by cases hb
  | c :: r, h, b, hb => by
    rcases List.mem_cons.1 hb with rfl | hb
    · exact h.1
    · exact sp1_mem h.2 b hb
theorem spared_mem : ∀ {k : List Nat} {l : List (Heap × Heap)}, spared k l → ∀ a ∈ k, ∀ b ∈ l, b.2[a]? = b.1[a]?
  | [], _, _, a, ha, _, _ => by cases ha
  | c :: r, l, h, a, ha, b, hb => by
    rcases List.mem_cons.1 ha with rfl | ha
    · exact sp1_mem h.1 b hb
    · exact spared_mem h.2 a ha b hb
theorem ransL_mem {H H1 : Heap} {d : Option Tmp} : ∀ {l : Log}, (d, Eff.ran H H1) ∈ l → (H, H1) ∈ ransL l
  | [], h => by cases h
  | (d', f) :: r, h => by
    rcases List.mem_cons.1 h with h | h
    · cases h; exact List.mem_cons_self
    · have := ransL_mem h
      cases f <;> first | exact this | exact List.mem_cons_of_mem _ this
def swK3 (a b : Nat) : Bool :=
  match a, b with
  | 1, 3 | 3, 1 | 4, 4 => false
  | _, _ => true
def fineK3 (L : List (Option Tmp × Option Tmp × Bool × Bool)) (l : List (Option Tmp × Nat)) : Bool :=
  L.all fun p => l.all fun a => ((a.2 != 4) || ((a.1 != p.1 || p.2.2.2) && (a.1 != p.2.1 || p.2.2.1))) && l.all fun b => a.1 != p.1 || b.1 != p.2.1 || swK3 a.2 b.2
theorem fineP_ran {ops : Array Oper} {lg : Log} (h : fineK3 (loosePairs ops) (kindL lg) = true) (h2 : apart2 (loadsL lg) (growsL lg)) (h3 : spared (loadsL lg) (ransL lg)) : FineP ops lg := by
  show Log.fine (loosePairs ops) lg = true
  unfold fineK3 at h
  unfold Log.fine
  rw [kindL_eq] at h
  simp only [List.all_map] at h
  rw [List.all_eq_true] at h ⊢
  intro p hp
  have h1 := h p hp
  rw [List.all_eq_true] at h1 ⊢
  intro a ha
  have h2' := h1 a ha
  simp only [Function.comp, Bool.and_eq_true] at h2' ⊢
  refine ⟨?_, ?_⟩
  · have := h2'.1
    generalize ((a.1 != p.1 || p.2.2.2) && (a.1 != p.2.1 || p.2.2.1)) = z at this ⊢
    cases hf : a.2 <;> simp [hf, kindE, Eff.isBad] at this ⊢
    exact this
  · have h3' := h2'.2
    rw [List.all_eq_true] at h3' ⊢
    intro b hb
    have h4 := h3' b hb
    simp only [Function.comp, Bool.or_eq_true] at h4 ⊢
    rcases h4 with h4 | h4
    · exact .inl h4
    · right
      obtain ⟨da, fa⟩ := a
      obtain ⟨db, fb⟩ := b
      cases fa <;> cases fb <;> simp [kindE, swK3, Eff.swaps] at h4 ⊢
      · rename_i x y
        exact apart2_mem h2 x (loadsL_mem ha) y (growsL_mem hb)
      · rename_i x H H1
        unfold sparesB
        exact @decide_eq_true _ (Classical.propDecidable _) (spared_mem h3 x (loadsL_mem ha) (H, H1) (ransL_mem hb))
      · rename_i x y
        exact (apart2_mem h2 y (loadsL_mem hb) x (growsL_mem ha)).symm
      · rename_i H H1 x
        unfold sparesB
        exact @decide_eq_true _ (Classical.propDecidable _) (spared_mem h3 x (loadsL_mem hb) (H, H1) (ransL_mem ha))
theorem dschR {p : Prop} (h : p := by refine fineP_ran (by kernel_rfl) ?_ ?_ <;> simp only [Log.add, loadsL, growsL, ransL, ne1, apart2, sp1, spared, and_self, and_true, true_and] <;> (first | done | omega | assumption | (repeat' apply And.intro) <;> first | rfl | assumption | exact List.getElem?_append_left (by omega))) : p := h
theorem dsch {p : Prop} (h : p := by first | (refine fineP_go ?_; kernel_rfl) | (refine fineP_kind ?_; kernel_rfl) | (refine fineP_apart (by kernel_rfl) ?_; simp only [Log.add, loadsL, growsL, ne1, apart2]; omega) | omega | (refine of_eq_true ?_; simp (disch := first | omega | (refine of_eq_true ?_; simp only [go_sem]; done) | (simp only [go_sem]; omega)) only [go_sem]; done) | (simp only [go_sem]; omega) | assumption) : p := h
attribute [go_sem ↓] sel_fineP
attribute [go_sem] Bool.false_eq_true sel_y sel_n sel_ny sel_nn wrap_u64 wrap_i64 wrap_u32 min_l
end Go.Sim
