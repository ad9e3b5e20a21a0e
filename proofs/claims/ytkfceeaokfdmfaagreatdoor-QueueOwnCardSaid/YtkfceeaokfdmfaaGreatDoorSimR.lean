/- A part of the proof of a law of module cupola: SimR, SimX, SimH, SimO, SimP. It has no conditions of its own. -/
import Derived.Test.YtkfceeaokfdmfaaGreatDoorSimDef
import Derived.Tactics
import Derived.Laws.BytesString
import Derived.Orders
import Derived.Laws.Cells
import Derived.Laws.CopyRow
set_option linter.all false
namespace Go.Sim

abbrev Cells := Nat → Nat → Prop

inductive RT (w : World) (S : Cells) : T → Value → Prop
  | int (k n) : RT w S (.int k n) (.int k n)
  | bool (b) : RT w S (.bool b) (.bool b)
  | str (s) : RT w S (.str s) (.string s)
  | sl0 (A c) : RT w S (.sl []) (.slice A 0 c)
  | sl (xs : List T) (b o cap esz : Nat) (c : Nat → Nat → Value) (hn : xs.length ≤ cap)
      (hl : ∀ i (hi : i < xs.length), (xs[i]).cells.length = esz)
      (hs : ∀ i j, i < xs.length → j < esz → S b (o + i * esz + j) ∧ w.cell? ⟨b, o + i * esz + j, none⟩ = some (c i j))
      (hr : ∀ i (hi : i < xs.length) j (hj : j < (xs[i]).cells.length), RT w S (xs[i]).cells[j] (c i j)) :
      RT w S (.sl xs) (.slice (some ⟨b, o, none⟩) xs.length cap)
  | agg (cs : List T) (us : List Value) (hl : cs.length = us.length) (h : ∀ i (hi : i < cs.length) (hu : i < us.length), RT w S cs[i] us[i]) : RT w S (.agg cs) (.agg us.toArray)
  | tup (cs : List T) (us : List Value) (hl : cs.length = us.length) (h : ∀ i (hi : i < cs.length) (hu : i < us.length), RT w S cs[i] us[i]) : RT w S (.tup cs) (.tuple us.toArray)
  | fn (f) : RT w S (.fn f) (.func (.func f) #[] #[])
  | nilp : RT w S .nilp (.pointer none)
  | nilf : RT w S .nilf .nilFunc
  | nili : RT w S .nili .nilIface
  | nilm : RT w S .nilm (.map none)
  | iface (t x u) (h : RT w S x u) : RT w S (.iface t x) (.iface t u)
  | opq (u : Value) (h : u.oneCell' = true) : RT w S .opq u

def Arr (w : World) (S : Cells) (xs : List T) (b o esz : Nat) : Prop :=
  (∀ i (hi : i < xs.length), (xs[i]).cells.length = esz) ∧
  ∀ i (hi : i < xs.length) j (hj : j < (xs[i]).cells.length), S b (o + i * esz + j) ∧ ∃ u, w.cell? ⟨b, o + i * esz + j, none⟩ = some u ∧ RT w S (xs[i]).cells[j] u

theorem RT.of_arr {w : World} {S : Cells} {xs : List T} {b o esz cap : Nat} (h : Arr w S xs b o esz) (hn : xs.length ≤ cap) : RT w S (.sl xs) (.slice (some ⟨b, o, none⟩) xs.length cap) := by
  have : ∀ i j, ∃ u, ∀ (hi : i < xs.length) (hj : j < (xs[i]).cells.length), w.cell? ⟨b, o + i * esz + j, none⟩ = some u ∧ RT w S (xs[i]).cells[j] u := by
    intro i j
    by_cases hi : i < xs.length
    · by_cases hj : j < (xs[i]).cells.length
      · obtain ⟨_, u, h1, h2⟩ := h.2 i hi j hj
        exact ⟨u, fun _ _ => ⟨h1, h2⟩⟩
      · exact ⟨default, fun _ hj' => absurd hj' hj⟩
    · exact ⟨default, fun hi' => absurd hi' hi⟩
  refine RT.sl xs b o cap esz (fun i j => (this i j).choose) hn h.1 ?_ ?_
  · intro i j hi hj
    have hj' : j < (xs[i]).cells.length := by rw [h.1 i hi]; exact hj
    exact ⟨(h.2 i hi j hj').1, ((this i j).choose_spec hi hj').1⟩
  · intro i hi j hj
    exact ((this i j).choose_spec hi hj).2

theorem RT.arr {w : World} {S : Cells} {xs : List T} {u : Value} (h : RT w S (.sl xs) u) :
    (xs = [] ∧ ∃ A c, u = .slice A 0 c) ∨ ∃ b o cap esz, u = .slice (some ⟨b, o, none⟩) xs.length cap ∧ xs.length ≤ cap ∧ Arr w S xs b o esz := by
  cases h with
  | sl0 A c => exact .inl ⟨rfl, A, c, rfl⟩
  | sl _ b o cap esz c hn hl hs hr =>
    refine .inr ⟨b, o, cap, esz, rfl, hn, hl, fun i hi j hj => ?_⟩
    have hj' : j < esz := by rw [← hl i hi]; exact hj
    exact ⟨(hs i j hi hj').1, _, (hs i j hi hj').2, hr i hi j hj⟩

def Stay (w : World) (S : Cells) (w' : World) (S' : Cells) : Prop := ∀ b j, S b j → S' b j ∧ w'.cell? ⟨b, j, none⟩ = w.cell? ⟨b, j, none⟩

theorem RT.mono {w w' : World} {S S' : Cells} (hs : Stay w S w' S') {x : T} {u : Value} (h : RT w S x u) : RT w' S' x u := by
  induction h with
  | int k n => exact .int k n
  | bool b => exact .bool b
  | str s => exact .str s
  | sl0 A c => exact .sl0 A c
  | sl xs b o cap esz c hn hl hst hr ih =>
    exact .sl xs b o cap esz c hn hl (fun i j hi hj => ⟨(hs _ _ (hst i j hi hj).1).1, by rw [(hs _ _ (hst i j hi hj).1).2]; exact (hst i j hi hj).2⟩) ih
  | agg cs us hl h ih => exact .agg cs us hl ih
  | tup cs us hl h ih => exact .tup cs us hl ih
  | fn f => exact .fn f
  | nilp => exact .nilp
  | nilf => exact .nilf
  | nili => exact .nili
  | nilm => exact .nilm
  | iface t x u h ih => exact .iface t x u ih
  | opq u h => exact .opq u h

theorem Arr.mono {w w' : World} {S S' : Cells} (hs : Stay w S w' S') {xs : List T} {b o esz : Nat} (h : Arr w S xs b o esz) : Arr w' S' xs b o esz :=
  ⟨h.1, fun i hi j hj => by
    obtain ⟨h1, u, h2, h3⟩ := h.2 i hi j hj
    exact ⟨(hs _ _ h1).1, u, by rw [(hs _ _ h1).2]; exact h2, h3.mono hs⟩⟩

abbrev Bl := List (Nat × Nat)

def RefOk (H : Heap) (β : Bl) (id n : Nat) (u : Value) : Prop :=
  (∃ A c, u = .slice A n c) ∧ ∃ o : Obj, H[id]? = some o ∧ n ≤ o.el.length ∧ (o.el.length = n → 0 < o.esz ∧ ∃ b cap, β[id]? = some (b, cap) ∧ u = .slice (some ⟨b, 0, none⟩) n cap ∧ n ≤ cap)
def PtrOk (H : Heap) (β : Bl) (id n i off : Nat) (u : Value) : Prop :=
  (∃ b k, u = .pointer (some ⟨b, k, none⟩)) ∧ ∃ o : Obj, H[id]? = some o ∧ n ≤ o.el.length ∧ (o.el.length = n → 0 < o.esz ∧ ∃ b cap, β[id]? = some (b, cap) ∧ u = .pointer (some ⟨b, i * o.esz + off, none⟩))

def MpRef (H : Heap) (β : Bl) (id : Nat) (u : Value) : Prop := ∃ o : Obj, H[id]? = some o ∧ o.esz = 0 ∧ o.gone = false ∧ ∃ b cap, β[id]? = some (b, cap) ∧ u = .map (some b)
inductive RV (w : World) (S : Cells) (H : Heap) (β : Bl) : V → Value → Prop
  | t (x u) (h : RT w S x u) : RV w S H β (.t x) u
  | ex (xs A n) (h : RT w S (.sl xs) (.slice A n n)) : RV w S H β (.ex xs) (.slice A n n)
  | ref (id n u) (h : RefOk H β id n u) : RV w S H β (.ref id n) u
  | ptr (id n i off u) (h : PtrOk H β id n i off u) : RV w S H β (.ptr id n i off) u
  | tp (xs i off b o esz) (hi : i < xs.length) (h : Arr w S xs b o esz) : RV w S H β (.tp xs i off) (.pointer (some ⟨b, o + i * esz + off, none⟩))
  | agg (cs : List V) (us : List Value) (hl : cs.length = us.length) (h : ∀ i (hi : i < cs.length) (hu : i < us.length), RV w S H β cs[i] us[i]) : RV w S H β (.agg cs) (.agg us.toArray)
  | tup (cs : List V) (us : List Value) (hl : cs.length = us.length) (h : ∀ i (hi : i < cs.length) (hu : i < us.length), RV w S H β cs[i] us[i]) : RV w S H β (.tup cs) (.tuple us.toArray)
  | fn (f) (a b : List V) (us vs : List Value) (hl : a.length = us.length) (hl' : b.length = vs.length) (h : ∀ i (hi : i < a.length) (hu : i < us.length), RV w S H β a[i] us[i])
      (h' : ∀ i (hi : i < b.length) (hu : i < vs.length), RV w S H β b[i] vs[i]) : RV w S H β (.fn f a b) (.func (.func f) us.toArray vs.toArray)
  | mp (id u) (h : MpRef H β id u) : RV w S H β (.mp id) u
  | ifc (t x u) (h : RV w S H β x u) : RV w S H β (.ifc t x) (.iface t u)
  | dead : RV w S H β .dead undef

def Grow (H : Heap) (β : Bl) (H' : Heap) (β' : Bl) : Prop :=
  ∀ (id : Nat) (o : Obj), H[id]? = some o → ∃ o' : Obj, H'[id]? = some o' ∧ o.el.length ≤ o'.el.length ∧ (o'.el.length = o.el.length → o'.esz = o.esz ∧ β'[id]? = β[id]?) ∧ (o.esz = 0 → o.gone = false → o'.esz = 0 ∧ o'.gone = false ∧ β'[id]? = β[id]?)

theorem Grow.refl (H : Heap) (β : Bl) : Grow H β H β := fun _ o h => ⟨o, h, Nat.le_refl _, fun _ => ⟨rfl, rfl⟩, fun h1 h2 => ⟨h1, h2, rfl⟩⟩

theorem Grow.trans {H β H1 β1 H2 β2} (h : Grow H β H1 β1) (k : Grow H1 β1 H2 β2) : Grow H β H2 β2 := by
  intro id o ho
  obtain ⟨o1, h1, l1, b1, m1⟩ := h id o ho
  obtain ⟨o2, h2, l2, b2, m2⟩ := k id o1 h1
  refine ⟨o2, h2, Nat.le_trans l1 l2, fun e => ⟨(b2 (by omega)).1.trans (b1 (by omega)).1, (b2 (by omega)).2.trans (b1 (by omega)).2⟩, fun e1 e2 => ?_⟩
  obtain ⟨a1, a2, a3⟩ := m1 e1 e2
  obtain ⟨c1, c2, c3⟩ := m2 a1 a2
  exact ⟨c1, c2, c3.trans a3⟩

theorem RefOk.mono {H H' : Heap} {β β' : Bl} (hg : Grow H β H' β') {id n : Nat} {u : Value} (h : RefOk H β id n u) : RefOk H' β' id n u := by
  obtain ⟨hk, o, ho, hn, hb⟩ := h
  obtain ⟨o', ho', hl, hβ, _⟩ := hg id o ho
  refine ⟨hk, o', ho', by omega, fun e => ?_⟩
  have e1 : o.el.length = n := by omega
  obtain ⟨hp, b, cap, h1, h2⟩ := hb e1
  obtain ⟨q1, q2⟩ := hβ (by omega)
  exact ⟨by omega, b, cap, by rw [q2]; exact h1, h2⟩

theorem PtrOk.mono {H H' : Heap} {β β' : Bl} (hg : Grow H β H' β') {id n i off : Nat} {u : Value} (h : PtrOk H β id n i off u) : PtrOk H' β' id n i off u := by
  obtain ⟨hk, o, ho, hn, hb⟩ := h
  obtain ⟨o', ho', hl, hβ, _⟩ := hg id o ho
  refine ⟨hk, o', ho', by omega, fun e => ?_⟩
  have e1 : o.el.length = n := by omega
  obtain ⟨hp, b, cap, h1, h2⟩ := hb e1
  obtain ⟨q1, q2⟩ := hβ (by omega)
  exact ⟨by omega, b, cap, by rw [q2]; exact h1, by rw [q1]; exact h2⟩

theorem MpRef.mono {H H' : Heap} {β β' : Bl} (hg : Grow H β H' β') {id : Nat} {u : Value} (h : MpRef H β id u) : MpRef H' β' id u := by
  obtain ⟨o, ho, e1, e2, b, cap, h1, h2⟩ := h
  obtain ⟨o', ho', _, _, hm⟩ := hg id o ho
  obtain ⟨m1, m2, m3⟩ := hm e1 e2
  exact ⟨o', ho', m1, m2, b, cap, by rw [m3]; exact h1, h2⟩

theorem RV.mono {w w' : World} {S S' : Cells} {H H' : Heap} {β β' : Bl} (hs : Stay w S w' S') (hg : Grow H β H' β') {v : V} {u : Value} (h : RV w S H β v u) : RV w' S' H' β' v u := by
  induction h with
  | t x u h => exact .t x u (h.mono hs)
  | ex xs A n h => exact .ex xs A n (h.mono hs)
  | ref id n u h => exact .ref id n u (h.mono hg)
  | ptr id n i off u h => exact .ptr id n i off u (h.mono hg)
  | tp xs i off b o esz hi h => exact .tp xs i off b o esz hi (h.mono hs)
  | agg cs us hl h ih => exact .agg cs us hl ih
  | tup cs us hl h ih => exact .tup cs us hl ih
  | fn f a b us vs hl hl' h h' ih ih' => exact .fn f a b us vs hl hl' ih ih'
  | mp id u h => exact .mp id u (h.mono hg)
  | ifc t x u h ih => exact .ifc t x u ih
  | dead => exact .dead

theorem RV.cells {w : World} {S : Cells} {H : Heap} {β : Bl} {v : V} {u : Value} (h : RV w S H β v u) :
    v.cells.length = u.cells.size ∧ ∀ j (hj : j < v.cells.length) (hu : j < u.cells.size), RV w S H β v.cells[j] u.cells[j] := by
  cases h with
  | t x u h =>
    cases h with
    | agg cs us hl h =>
      refine ⟨by simpa [V.cells, Value.cells] using hl, fun j hj hu => ?_⟩
      simp only [V.cells, List.getElem_map, Value.cells, List.getElem_toArray]
      exact .t _ _ (h j (by simpa [V.cells] using hj) (by simpa [Value.cells] using hu))
    | int k n => exact ⟨rfl, fun j hj hu => by have : j = 0 := by simp [V.cells] at hj; omega
                                               subst this; exact .t _ _ (.int k n)⟩
    | bool b => exact ⟨rfl, fun j hj hu => by have : j = 0 := by simp [V.cells] at hj; omega
                                              subst this; exact .t _ _ (.bool b)⟩
    | str s => exact ⟨rfl, fun j hj hu => by have : j = 0 := by simp [V.cells] at hj; omega
                                             subst this; exact .t _ _ (.str s)⟩
    | sl0 A c => exact ⟨rfl, fun j hj hu => by have : j = 0 := by simp [V.cells] at hj; omega
                                               subst this; exact .t _ _ (.sl0 A c)⟩
    | sl xs b o cap esz c hn hl hs hr => exact ⟨rfl, fun j hj hu => by have : j = 0 := by simp [V.cells] at hj; omega
                                                                       subst this; exact .t _ _ (.sl xs b o cap esz c hn hl hs hr)⟩
    | tup cs us hl h => exact ⟨rfl, fun j hj hu => by have : j = 0 := by simp [V.cells] at hj; omega
                                                      subst this; exact .t _ _ (.tup cs us hl h)⟩
    | fn f => exact ⟨rfl, fun j hj hu => by have : j = 0 := by simp [V.cells] at hj; omega
                                            subst this; exact .t _ _ (.fn f)⟩
    | nilp => exact ⟨rfl, fun j hj hu => by have : j = 0 := by simp [V.cells] at hj; omega
                                            subst this; exact .t _ _ .nilp⟩
    | nilf => exact ⟨rfl, fun j hj hu => by have : j = 0 := by simp [V.cells] at hj; omega
                                            subst this; exact .t _ _ .nilf⟩
    | nili => exact ⟨rfl, fun j hj hu => by have : j = 0 := by simp [V.cells] at hj; omega
                                            subst this; exact .t _ _ .nili⟩
    | nilm => exact ⟨rfl, fun j hj hu => by have : j = 0 := by simp [V.cells] at hj; omega
                                            subst this; exact .t _ _ .nilm⟩
    | iface t x u h => exact ⟨rfl, fun j hj hu => by have : j = 0 := by simp [V.cells] at hj; omega
                                                     subst this; exact .t _ _ (.iface t x u h)⟩
    | opq u h =>
      have hu : u.cells = #[u] := by cases u <;> first | rfl | (simp [Value.oneCell'] at h)
      refine ⟨by rw [hu]; rfl, fun j hj hu' => ?_⟩
      have : j = 0 := by simp [V.cells] at hj; omega
      subst this
      have e : u.cells[0] = u := by simp [hu]
      rw [e]; exact .t _ _ (.opq u h)
  | ex xs A n h => exact ⟨rfl, fun j hj hu => by have : j = 0 := by simp [V.cells] at hj; omega
                                                 subst this; exact .ex xs A n h⟩
  | ref id n u h =>
    have h' := h
    obtain ⟨⟨A, c, rfl⟩, _⟩ := h'
    exact ⟨rfl, fun j hj hu => by have : j = 0 := by simp [V.cells] at hj; omega
                                  subst this; exact .ref _ _ _ h⟩
  | ptr id n i off u h =>
    have h' := h
    obtain ⟨⟨A, k, rfl⟩, _⟩ := h'
    exact ⟨rfl, fun j hj hu => by have : j = 0 := by simp [V.cells] at hj; omega
                                  subst this; exact .ptr _ _ _ _ _ h⟩
  | tp xs i off b o esz hi h => exact ⟨rfl, fun j hj hu => by have : j = 0 := by simp [V.cells] at hj; omega
                                                              subst this; exact .tp xs i off b o esz hi h⟩
  | agg cs us hl h =>
    refine ⟨by simpa [V.cells, Value.cells] using hl, fun j hj hu => ?_⟩
    exact h j (by simpa [V.cells] using hj) (by simpa [Value.cells] using hu)
  | tup cs us hl h => exact ⟨rfl, fun j hj hu => by have : j = 0 := by simp [V.cells] at hj; omega
                                                    subst this; exact .tup cs us hl h⟩
  | fn f a b us vs hl hl' h h' => exact ⟨rfl, fun j hj hu => by have : j = 0 := by simp [V.cells] at hj; omega
                                                                subst this; exact .fn f a b us vs hl hl' h h'⟩
  | mp id u h =>
    have h' := h
    obtain ⟨o, _, _, _, b, cap, _, rfl⟩ := h'
    exact ⟨rfl, fun j hj hu => by have : j = 0 := by simp [V.cells] at hj; omega
                                  subst this; exact .mp _ _ h⟩
  | ifc t x u h => exact ⟨rfl, fun j hj hu => by have : j = 0 := by simp [V.cells] at hj; omega
                                                 subst this; exact .ifc t x u h⟩
  | dead => exact ⟨rfl, fun j hj hu => by have : j = 0 := by simp [V.cells] at hj; omega
                                          subst this; exact .dead⟩

end Go.Sim

namespace Go.Sim
class Base where
  w : World
  S : Cells
variable [Base]

structure ObjLive (w : World) (S : Cells) (H : Heap) (β : Bl) (o : Obj) (b cap : Nat) : Prop where
  pos : 0 < o.esz
  room : o.el.length ≤ cap
  st : ∀ j, S b j ↔ (o.st = true ∧ j < o.el.length * o.esz)
  row : ∃ cs T, w.heap[b]? = some (.cells cs T (0, 0)) ∧ cs.size = cap * o.esz ∧
    ∀ i (hi : i < o.el.length), (o.el[i]).cells.length = o.esz ∧ ∀ j (hj : j < (o.el[i]).cells.length), ∃ u, cs[i * o.esz + j]? = some u ∧ RV w S H β (o.el[i]).cells[j] u

def keysV (ks : List ByteArray) : List V := ks.map fun k => V.t (.str k)
structure MapOk (w : World) (S : Cells) (o : Obj) (b : Nat) : Prop where
  st : ∀ j, ¬ S b j
  row : ∃ (ks : List ByteArray) (es : Array MapEntry) (clock : Nat), o.el = keysV ks ∧ w.heap[b]? = some (.map es clock) ∧ es.toList.map (fun e => (e.key, e.val)) = ks.map fun k => (Value.string k, Value.bool true)

def told : Go.Obj → Bool
  | .cells .. => true
  | .map .. => true
  | _ => false
structure ObjOk (w : World) (S : Cells) (H : Heap) (β : Bl) (o : Obj) (b cap : Nat) : Prop where
  blk : ∃ g, w.heap[b]? = some g ∧ told g = true
  live : 0 < o.esz → ObjLive w S H β o b cap
  map : o.esz = 0 → o.gone = false → MapOk w S o b

def Obj.alive (o : Obj) : Prop := 0 < o.esz ∨ o.gone = false

structure Rel (w : World) (S : Cells) (H : Heap) (β : Bl) : Prop where
  len : β.length = H.length
  inj : ∀ (i j b c c' : Nat) (oi oj : Obj), H[i]? = some oi → H[j]? = some oj → oi.alive → oj.alive → β[i]? = some (b, c) → β[j]? = some (b, c') → i = j
  lt : ∀ b j, S b j → b < w.heap.size
  obj : ∀ (id : Nat) (o : Obj) (b cap : Nat), H[id]? = some o → β[id]? = some (b, cap) → ObjOk w S H β o b cap
  base : Stay Base.w Base.S w S

structure Ext (w : World) (S : Cells) (H : Heap) (β : Bl) (w' : World) (S' : Cells) (H' : Heap) (β' : Bl) : Prop where
  os : w'.os = w.os
  output : w'.output = w.output
  size : w.heap.size ≤ w'.heap.size
  keep : ∀ b, b < w.heap.size → (∀ (id c : Nat), β[id]? ≠ some (b, c)) → w'.heap[b]? = w.heap[b]?
  stay : Stay w S w' S'
  new : ∀ b j, S' b j → S b j ∨ w.heap.size ≤ b ∨ ∃ id c : Nat, β[id]? = some (b, c)
  grow : Grow H β H' β'
  own : ∀ (id b c : Nat), β'[id]? = some (b, c) → (∃ id' c' : Nat, β[id']? = some (b, c')) ∨ w.heap.size ≤ b

theorem Stay.refl (w : World) (S : Cells) : Stay w S w S := fun _ _ h => ⟨h, rfl⟩
theorem Stay.trans {w w1 w2 : World} {S S1 S2 : Cells} (h : Stay w S w1 S1) (k : Stay w1 S1 w2 S2) : Stay w S w2 S2 := fun b j hs =>
  ⟨(k b j (h b j hs).1).1, ((k b j (h b j hs).1).2).trans (h b j hs).2⟩

theorem Ext.refl (w : World) (S : Cells) (H : Heap) (β : Bl) : Ext w S H β w S H β :=
  ⟨rfl, rfl, Nat.le_refl _, fun _ _ _ => rfl, Stay.refl _ _, fun _ _ h => .inl h, Grow.refl _ _, fun id _ c h => .inl ⟨id, c, h⟩⟩

theorem Ext.trans {w w1 w2 : World} {S S1 S2 : Cells} {H H1 H2 : Heap} {β β1 β2 : Bl} (h : Ext w S H β w1 S1 H1 β1) (k : Ext w1 S1 H1 β1 w2 S2 H2 β2) : Ext w S H β w2 S2 H2 β2 where
  os := k.os.trans h.os
  output := k.output.trans h.output
  size := Nat.le_trans h.size k.size
  keep := fun b hb hn => (k.keep b (Nat.lt_of_lt_of_le hb h.size) (fun id c e => by
    rcases h.own id b c e with ⟨id', c', e'⟩ | hge
    · exact hn id' c' e'
    · omega)).trans (h.keep b hb hn)
  stay := h.stay.trans k.stay
  new := fun b j hs => by
    rcases k.new b j hs with h1 | h1 | ⟨id, c, h1⟩
    · exact h.new b j h1
    · exact .inr (.inl (Nat.le_trans h.size h1))
    · rcases h.own id b c h1 with h2 | h2
      · obtain ⟨id', c', h2⟩ := h2; exact .inr (.inr ⟨id', c', h2⟩)
      · exact .inr (.inl h2)
  grow := h.grow.trans k.grow
  own := fun id b c e => by
    rcases k.own id b c e with ⟨id', c', e'⟩ | hge
    · exact h.own id' b c' e'
    · exact .inr (Nat.le_trans h.size hge)

theorem Ext.below {w w' : World} {S S' : Cells} {H' : Heap} {β' : Bl} (h : Ext w S [] [] w' S' H' β') : w'.os = w.os ∧ w'.output = w.output ∧ w.heap.size ≤ w'.heap.size ∧ ∀ k, k < w.heap.size → w'.heap[k]? = w.heap[k]? :=
  ⟨h.os, h.output, h.size, fun k hk => h.keep k hk (by simp)⟩

theorem ObjLive.mono {w w' : World} {S S' : Cells} {H H' : Heap} {β β' : Bl} {o : Obj} {b cap : Nat} (h : ObjLive w S H β o b cap) (hs : Stay w S w' S') (hg : Grow H β H' β')
    (hb : w'.heap[b]? = w.heap[b]?) (hst : ∀ j, S' b j ↔ S b j) : ObjLive w' S' H' β' o b cap where
  pos := h.pos
  room := h.room
  st := fun j => (hst j).trans (h.st j)
  row := by
    obtain ⟨cs, T, h1, h2, h3⟩ := h.row
    refine ⟨cs, T, by rw [hb]; exact h1, h2, fun i hi => ⟨(h3 i hi).1, fun j hj => ?_⟩⟩
    obtain ⟨u, h4, h5⟩ := (h3 i hi).2 j hj
    exact ⟨u, h4, h5.mono hs hg⟩
theorem MapOk.mono {w w' : World} {S S' : Cells} {o : Obj} {b : Nat} (h : MapOk w S o b) (hb : w'.heap[b]? = w.heap[b]?) (hst : ∀ j, S' b j ↔ S b j) : MapOk w' S' o b where
  st := fun j hs => h.st j ((hst j).1 hs)
  row := by
    obtain ⟨ks, es, clock, h1, h2, h3⟩ := h.row
    exact ⟨ks, es, clock, h1, by rw [hb]; exact h2, h3⟩

theorem heap_lt {w : World} {b : Nat} {o : Go.Obj} (h : w.heap[b]? = some o) : b < w.heap.size := by
  rcases Nat.lt_or_ge b w.heap.size with h' | h'
  · exact h'
  · rw [Array.getElem?_eq_none h'] at h; cases h

theorem lt_of_heap {w w' : World} {b : Nat} (h : b < w.heap.size) (hb : w'.heap[b]? = w.heap[b]?) : b < w'.heap.size := by
  rw [Array.getElem?_eq_getElem h] at hb
  exact heap_lt hb

theorem ObjOk.mono {w w' : World} {S S' : Cells} {H H' : Heap} {β β' : Bl} {o : Obj} {b cap : Nat} (h : ObjOk w S H β o b cap) (hs : Stay w S w' S') (hg : Grow H β H' β')
    (hb : w'.heap[b]? = w.heap[b]?) (hst : ∀ j, S' b j ↔ S b j) : ObjOk w' S' H' β' o b cap where
  blk := by
    obtain ⟨g, h1, h2⟩ := h.blk
    exact ⟨g, by rw [hb]; exact h1, h2⟩
  live := fun hp => (h.live hp).mono hs hg hb hst
  map := fun h1 h2 => (h.map h1 h2).mono hb hst

theorem cell_of_heap {w : World} {b j : Nat} {cs : Array Value} {T : TypeId} {fr : Nat × Nat} (h : w.heap[b]? = some (.cells cs T fr)) : w.cell? ⟨b, j, none⟩ = cs[j]? := by
  simp [World.cell?, h]

theorem cell_same {w w' : World} {b : Nat} (h : w'.heap[b]? = w.heap[b]?) (j : Nat) : w'.cell? ⟨b, j, none⟩ = w.cell? ⟨b, j, none⟩ := by
  simp [World.cell?, h]

theorem Rel.block {w : World} {S : Cells} {H : Heap} {β : Bl} (h : Rel w S H β) {id b c : Nat} (e : β[id]? = some (b, c)) : b < w.heap.size := by
  have hl : id < β.length := by
    rcases Nat.lt_or_ge id β.length with h' | h'
    · exact h'
    · rw [List.getElem?_eq_none h'] at e; cases e
  have : id < H.length := by rw [← h.len]; exact hl
  obtain ⟨g, h1, _⟩ := (h.obj id H[id] b c (List.getElem?_eq_getElem this) e).blk
  exact heap_lt h1

theorem Rel.at {w : World} {S : Cells} {H : Heap} {β : Bl} (h : Rel w S H β) {id : Nat} {o : Obj} (e : H[id]? = some o) : ∃ b c, β[id]? = some (b, c) := by
  have hl : id < H.length := by
    rcases Nat.lt_or_ge id H.length with h' | h'
    · exact h'
    · rw [List.getElem?_eq_none h'] at e; cases e
  have : id < β.length := by rw [h.len]; exact hl
  exact ⟨(β[id]).1, (β[id]).2, by rw [List.getElem?_eq_getElem this]⟩

theorem alloc_size (w : World) (o : Go.Obj) : (w.alloc o).heap.size = w.heap.size + 1 := by
  show (w.heap.push o).size = _
  simp
theorem alloc_old (w : World) (o : Go.Obj) (k : Nat) (h : k < w.heap.size) : (w.alloc o).heap[k]? = w.heap[k]? := by
  show (w.heap.push o)[k]? = _
  rw [Array.getElem?_push, if_neg (by omega)]
theorem alloc_new (w : World) (o : Go.Obj) : (w.alloc o).heap[w.heap.size]? = some o := by
  show (w.heap.push o)[w.heap.size]? = _
  rw [Array.getElem?_push, if_pos rfl]

theorem Stay.alloc {w : World} {S : Cells} (hlt : ∀ b j, S b j → b < w.heap.size) (o : Go.Obj) : Stay w S (w.alloc o) S := fun b j h =>
  ⟨h, cell_same (alloc_old w o b (hlt b j h)) j⟩

theorem Grow.push {H : Heap} {β : Bl} (hl : β.length = H.length) (o : Obj) (p : Nat × Nat) : Grow H β (H ++ [o]) (β ++ [p]) := by
  intro id o' ho
  have hid : id < H.length := by
    rcases Nat.lt_or_ge id H.length with h' | h'
    · exact h'
    · rw [List.getElem?_eq_none h'] at ho; cases ho
  exact ⟨o', by rw [List.getElem?_append_left hid]; exact ho, Nat.le_refl _, fun _ => ⟨rfl, by rw [List.getElem?_append_left (by omega)]⟩, fun h1 h2 => ⟨h1, h2, by rw [List.getElem?_append_left (by omega)]⟩⟩

theorem Rel.pushO {w : World} {S : Cells} {H : Heap} {β : Bl} (h : Rel w S H β) {g : Go.Obj} {o : Obj} {cap : Nat}
    (hnew : Stay w S (w.alloc g) S → Grow H β (H ++ [o]) (β ++ [(w.heap.size, cap)]) → ObjOk (w.alloc g) S (H ++ [o]) (β ++ [(w.heap.size, cap)]) o w.heap.size cap) :
    Ext w S H β (w.alloc g) S (H ++ [o]) (β ++ [(w.heap.size, cap)]) ∧ Rel (w.alloc g) S (H ++ [o]) (β ++ [(w.heap.size, cap)]) := by
  have hs := Stay.alloc h.lt g
  have hg := Grow.push h.len o (w.heap.size, cap)
  have hold : ∀ (id b c : Nat), (β ++ [(w.heap.size, cap)])[id]? = some (b, c) → (β[id]? = some (b, c) ∧ id < β.length) ∨ (id = β.length ∧ b = w.heap.size ∧ c = cap) := by
    intro id b c e
    rcases Nat.lt_trichotomy id β.length with hlt | heq | hgt
    · rw [List.getElem?_append_left hlt] at e; exact .inl ⟨e, hlt⟩
    · subst heq; simp at e; exact .inr ⟨rfl, e.1.symm, e.2.symm⟩
    · rw [List.getElem?_eq_none (by simp; omega)] at e; cases e
  refine ⟨⟨rfl, rfl, by rw [alloc_size]; omega, fun b hb _ => alloc_old _ _ _ hb, hs, fun _ _ h => .inl h, hg, ?_⟩, ⟨by simp [h.len], ?_, ?_, ?_, h.base.trans hs⟩⟩
  · intro id b c e
    rcases hold id b c e with ⟨e', _⟩ | ⟨_, rfl, _⟩
    · exact .inl ⟨id, c, e'⟩
    · exact .inr (Nat.le_refl _)
  · intro i j b c c' oi oj h1 h2 a1 a2 e1 e2
    rcases hold i b c e1 with ⟨e1', l1⟩ | ⟨rfl, hb1, _⟩ <;> rcases hold j b c' e2 with ⟨e2', l2⟩ | ⟨rfl, hb2, _⟩
    · rw [List.getElem?_append_left (by rw [← h.len]; exact l1)] at h1
      rw [List.getElem?_append_left (by rw [← h.len]; exact l2)] at h2
      exact h.inj i j b c c' oi oj h1 h2 a1 a2 e1' e2'
    · have := h.block e1'; omega
    · have := h.block e2'; omega
    · rfl
  · intro b j hS; have := h.lt b j hS; rw [alloc_size]; omega
  · intro id o' b c ho e
    rcases hold id b c e with ⟨e', hlt⟩ | ⟨rfl, rfl, rfl⟩
    · rw [List.getElem?_append_left (by rw [← h.len]; exact hlt)] at ho
      exact (h.obj id o' b c ho e').mono hs hg (alloc_old _ _ _ (h.block e')) (fun _ => Iff.rfl)
    · rw [h.len] at ho
      simp at ho
      subst ho
      exact hnew hs hg
theorem Rel.push {w : World} {S : Cells} {H : Heap} {β : Bl} (h : Rel w S H β) {cs : Array Value} {T : TypeId} {o : Obj} {cap : Nat} (hst : o.st = false) (hp : 0 < o.esz) (hr : o.el.length ≤ cap) (hc : cs.size = cap * o.esz)
    (hv : ∀ i (hi : i < o.el.length), (o.el[i]).cells.length = o.esz ∧ ∀ j (hj : j < (o.el[i]).cells.length), ∃ u, cs[i * o.esz + j]? = some u ∧ RV w S H β (o.el[i]).cells[j] u) :
    Ext w S H β (w.alloc (.cells cs T)) S (H ++ [o]) (β ++ [(w.heap.size, cap)]) ∧ Rel (w.alloc (.cells cs T)) S (H ++ [o]) (β ++ [(w.heap.size, cap)]) := by
  refine h.pushO fun hs hg => ⟨⟨_, alloc_new _ _, rfl⟩, fun _ => ?_, fun h0 => by omega⟩
  refine ⟨hp, hr, fun j => ⟨fun hS => absurd (h.lt _ _ hS) (by omega), fun hh => by rw [hst] at hh; exact absurd hh.1 (by simp)⟩, cs, T, alloc_new _ _, hc, fun i hi => ⟨(hv i hi).1, fun j hj => ?_⟩⟩
  obtain ⟨u, h1, h2⟩ := (hv i hi).2 j hj
  exact ⟨u, h1, h2.mono hs hg⟩
theorem Rel.pushM {w : World} {S : Cells} {H : Heap} {β : Bl} (h : Rel w S H β) :
    Ext w S H β (w.alloc (.map #[] 0)) S (H ++ [⟨[], 0, false⟩]) (β ++ [(w.heap.size, 0)]) ∧ Rel (w.alloc (.map #[] 0)) S (H ++ [⟨[], 0, false⟩]) (β ++ [(w.heap.size, 0)]) := by
  refine h.pushO fun hs hg => ⟨⟨_, alloc_new _ _, rfl⟩, fun h0 => (by cases h0), fun _ _ => ⟨fun j hS => absurd (h.lt _ _ hS) (by omega), [], #[], 0, rfl, alloc_new _ _, rfl⟩⟩

theorem Rel.fixed {w : World} {S : Cells} {H : Heap} {β : Bl} (h : Rel w S H β) (cs : Array Value) (T : TypeId) :
    Ext w S H β (w.alloc (.cells cs T)) (fun b j => S b j ∨ b = w.heap.size) H β ∧ Rel (w.alloc (.cells cs T)) (fun b j => S b j ∨ b = w.heap.size) H β := by
  have hs : Stay w S (w.alloc (.cells cs T)) (fun b j => S b j ∨ b = w.heap.size) := fun b j hS => ⟨.inl hS, (Stay.alloc h.lt (.cells cs T) b j hS).2⟩
  refine ⟨⟨rfl, rfl, by rw [alloc_size]; omega, fun b hb _ => alloc_old _ _ _ hb, hs, ?_, Grow.refl _ _, fun id _ c e => .inl ⟨id, c, e⟩⟩, ⟨h.len, h.inj, ?_, ?_, h.base.trans hs⟩⟩
  · rintro b j (hS | rfl)
    · exact .inl hS
    · exact .inr (.inl (Nat.le_refl _))
  · rintro b j (hS | rfl)
    · have := h.lt b j hS; rw [alloc_size]; omega
    · rw [alloc_size]; omega
  · intro id o b c ho e
    have hb := h.block e
    exact (h.obj id o b c ho e).mono hs (Grow.refl _ _) (alloc_old _ _ _ hb) (fun j => ⟨fun hh => hh.resolve_right (by omega), .inl⟩)

theorem Ext.drawn {w : World} {S : Cells} {H : Heap} {β : Bl} (n : Nat) : Ext w S H β { w with drawn := n } S H β :=
  ⟨rfl, rfl, Nat.le_refl _, fun _ _ _ => rfl, fun _ _ h => ⟨h, rfl⟩, fun _ _ h => .inl h, Grow.refl _ _, fun id _ c h => .inl ⟨id, c, h⟩⟩

theorem RT.drawn {w : World} {S : Cells} (n : Nat) {x : T} {u : Value} (h : RT w S x u) : RT { w with drawn := n } S x u := RT.mono (w := w) (w' := { w with drawn := n }) (S := S) (S' := S) (fun _ _ h => ⟨h, rfl⟩) h
theorem Rel.drawn {w : World} {S : Cells} {H : Heap} {β : Bl} (h : Rel w S H β) (n : Nat) : Rel { w with drawn := n } S H β where
  len := h.len
  inj := h.inj
  lt := h.lt
  base := h.base
  obj := fun id o b c ho e => (h.obj id o b c ho e).mono (fun _ _ h => ⟨h, rfl⟩) (Grow.refl _ _) rfl (fun _ => Iff.rfl)

theorem Obj.gone_or (o : Obj) : o.alive ∨ (o.esz = 0 ∧ o.gone = true) := by
  unfold Obj.alive
  rcases Nat.eq_zero_or_pos o.esz with h | h
  · cases hg : o.gone
    · exact .inl (.inr rfl)
    · exact .inr ⟨h, rfl⟩
  · exact .inl (.inl h)
theorem ObjOk.other {w w' : World} {S S' : Cells} {H H' : Heap} {β β' : Bl} {o : Obj} {b cap : Nat} (h : ObjOk w S H β o b cap) (hs : Stay w S w' S') (hg : Grow H β H' β') (hsz : ∀ (b : Nat) (g : Go.Obj), w.heap[b]? = some g → told g = true → ∃ g', w'.heap[b]? = some g' ∧ told g' = true)
    (hb : o.alive → w'.heap[b]? = w.heap[b]?) (hst : o.alive → ∀ j, S' b j ↔ S b j) : ObjOk w' S' H' β' o b cap where
  blk := by
    obtain ⟨g, h1, h2⟩ := h.blk
    exact hsz b g h1 h2
  live := fun hp => (h.live hp).mono hs hg (hb (.inl hp)) (hst (.inl hp))
  map := fun h1 h2 => (h.map h1 h2).mono (hb (.inr h2)) (hst (.inr h2))
theorem Rel.injSet {w : World} {S : Cells} {H : Heap} {β : Bl} (hR : Rel w S H β) {id : Nat} {o o2 : Obj} (ho : H[id]? = some o) (ha : o.alive) :
    ∀ (i j b c c' : Nat) (oi oj : Obj), (H.set id o2)[i]? = some oi → (H.set id o2)[j]? = some oj → oi.alive → oj.alive → β[i]? = some (b, c) → β[j]? = some (b, c') → i = j := by
  have key : ∀ (i : Nat) (oi : Obj), (H.set id o2)[i]? = some oi → oi.alive → ∃ p : Obj, H[i]? = some p ∧ p.alive := by
    intro i oi h a
    by_cases e : id = i
    · subst e; exact ⟨o, ho, ha⟩
    · rw [List.getElem?_set_ne e] at h; exact ⟨oi, h, a⟩
  intro i j b c c' oi oj h1 h2 a1 a2 e1 e2
  obtain ⟨p, p1, p2⟩ := key i oi h1 a1
  obtain ⟨q, q1, q2⟩ := key j oj h2 a2
  exact hR.inj i j b c c' p q p1 q1 p2 q2 e1 e2
end Go.Sim

namespace Go.Sim
variable [Base]

def Raise (H H' : Heap) : Prop := H'.length = H.length ∧ ∀ (id : Nat) (o : Obj), H[id]? = some o → ∃ o' : Obj, H'[id]? = some o' ∧ o'.el = o.el ∧ o'.esz = o.esz ∧ (o.st = true → o'.st = true)

theorem Raise.refl (H : Heap) : Raise H H := ⟨rfl, fun _ o h => ⟨o, h, rfl, rfl, id⟩⟩
theorem Raise.trans {H H1 H2 : Heap} (h : Raise H H1) (k : Raise H1 H2) : Raise H H2 :=
  ⟨k.1.trans h.1, fun id o ho => by
    obtain ⟨o1, h1, e1, z1, s1⟩ := h.2 id o ho
    obtain ⟨o2, h2, e2, z2, s2⟩ := k.2 id o1 h1
    exact ⟨o2, h2, e2.trans e1, z2.trans z1, fun s => s2 (s1 s)⟩⟩

theorem Raise.set {H : Heap} {id : Nat} {o : Obj} (h : H[id]? = some o) : Raise H (H.set id { o with st := true }) := by
  refine ⟨by simp, fun id' o' ho => ?_⟩
  by_cases e : id = id'
  · subst e
    rw [h] at ho; cases ho
    have hl : id < H.length := by
      rcases Nat.lt_or_ge id H.length with h' | h'
      · exact h'
      · rw [List.getElem?_eq_none h'] at h; cases h
    exact ⟨{ o with st := true }, by simp [hl], rfl, rfl, fun _ => rfl⟩
  · exact ⟨o', by rw [List.getElem?_set_ne e]; exact ho, rfl, rfl, fun h => h⟩

theorem cur_at {H : Heap} {id n : Nat} {o : Obj} (h : cur H id n = some o) : H[id]? = some o ∧ o.el.length = n := by
  unfold cur at h
  split at h
  · rename_i o' h'
    split at h
    · cases h; exact ⟨h', by assumption⟩
    · cases h
  · cases h

theorem Raise.cur {H H' : Heap} (hr : Raise H H') {id n : Nat} {o : Obj} (h : cur H id n = some o) : ∃ o', Go.Sim.cur H' id n = some o' ∧ o'.el = o.el ∧ o'.esz = o.esz ∧ (o.st = true → o'.st = true) := by
  obtain ⟨h1, h2⟩ := cur_at h
  obtain ⟨o', h3, e, z, s⟩ := hr.2 id o h1
  exact ⟨o', by simp [Go.Sim.cur, h3, e, h2], e, z, s⟩

theorem hold_raise : ∀ (d : Nat) (H : Heap) (v : V), Raise H (hold d H v) := by
  intro d
  induction d with
  | zero => intro H v; cases v <;> exact Raise.refl _
  | succ d ih =>
    have fold : ∀ (l : List V) (H : Heap), Raise H (l.foldl (hold d) H) := by
      intro l
      induction l with
      | nil => intro H; exact Raise.refl _
      | cons v l ihl => intro H; exact (ih H v).trans (ihl _)
    intro H v
    cases v with
    | ref id n =>
      show Raise H (match cur H id n with | some o => o.el.foldl (hold d) (H.set id { o with st := true }) | none => H)
      cases hc : cur H id n with
      | none => exact Raise.refl _
      | some o => exact (Raise.set (cur_at hc).1).trans (fold _ _)
    | agg cs => exact fold _ _
    | _ => exact Raise.refl _

theorem fold_raise (d : Nat) : ∀ (l : List V) (H : Heap), Raise H (l.foldl (hold d) H) := by
  intro l
  induction l with
  | nil => intro H; exact Raise.refl _
  | cons v l ihl => intro H; exact (hold_raise d H v).trans (ihl _)

def AllSt (H : Heap) : Nat → V → Prop
  | d + 1, .ref id n => ∀ o, cur H id n = some o → o.st = true ∧ ∀ y, y ∈ o.el → AllSt H d y
  | d + 1, .agg cs => ∀ y, y ∈ cs → AllSt H d y
  | _, _ => True

theorem AllSt.raise {H H' : Heap} (hr : Raise H H') : ∀ (d : Nat) (v : V), AllSt H d v → AllSt H' d v := by
  intro d
  induction d with
  | zero => intro v _; cases v <;> trivial
  | succ d ih =>
    intro v h
    cases v with
    | ref id n =>
      intro o' ho'
      obtain ⟨h1', h2'⟩ := cur_at ho'
      have hl : id < H.length := by
        rcases Nat.lt_or_ge id H'.length with h' | h'
        · rw [← hr.1]; exact h'
        · rw [List.getElem?_eq_none h'] at h1'; cases h1'
      obtain ⟨o1, h3, e, z, s⟩ := hr.2 id H[id] (List.getElem?_eq_getElem hl)
      rw [h1'] at h3; cases h3
      have hc : cur H id n = some H[id] := by simp [cur, List.getElem?_eq_getElem hl, ← e, h2']
      obtain ⟨hs, hy⟩ := h _ hc
      exact ⟨s hs, fun y hy' => ih y (hy y (by rw [← e]; exact hy'))⟩
    | agg cs => exact fun y hy => ih y (h y hy)
    | _ => trivial

theorem hold_all : ∀ (d : Nat) (H : Heap) (v : V), AllSt (hold d H v) d v := by
  intro d
  induction d with
  | zero => intro H v; cases v <;> trivial
  | succ d ih =>
    have fold : ∀ (l : List V) (H : Heap), ∀ y, y ∈ l → AllSt (l.foldl (hold d) H) d y := by
      intro l
      induction l with
      | nil => intro H y hy; cases hy
      | cons v l ihl =>
        intro H y hy
        simp only [List.foldl_cons]
        rcases List.mem_cons.1 hy with rfl | hy
        · exact (ih H y).raise (fold_raise d l _) d y
        · exact ihl _ y hy
    intro H v
    cases v with
    | ref id n =>
      show AllSt (match cur H id n with | some o => o.el.foldl (hold d) (H.set id { o with st := true }) | none => H) (d + 1) (.ref id n)
      cases hc : cur H id n with
      | none => intro o ho; simp only at ho; rw [hc] at ho; cases ho
      | some o =>
        simp only
        obtain ⟨h1, h2⟩ := cur_at hc
        intro o' ho'
        have hl : id < H.length := by
          rcases Nat.lt_or_ge id H.length with h' | h'
          · exact h'
          · rw [List.getElem?_eq_none h'] at h1; cases h1
        have hr := fold_raise d o.el (H.set id { o with st := true })
        obtain ⟨o1, h3, e, z, s⟩ := hr.2 id { o with st := true } (by simp [hl])
        rw [(cur_at ho').1] at h3; cases h3
        exact ⟨s rfl, fun y hy => fold _ _ y (by rw [e] at hy; exact hy)⟩
    | agg cs => exact fold _ _
    | _ => trivial

theorem mapM_some {α β : Type} {f : α → Option β} : ∀ {l : List α} {r : List β}, l.mapM f = some r → l.length = r.length ∧ ∀ i (hi : i < l.length) (hr : i < r.length), f l[i] = some r[i] := by
  intro l
  induction l with
  | nil => intro r h; simp at h; subst h; exact ⟨rfl, fun i hi => by simp at hi⟩
  | cons a l ih =>
    intro r h
    rw [List.mapM_cons] at h
    cases hf : f a with
    | none => simp [hf] at h
    | some b =>
      cases hm : l.mapM f with
      | none => simp [hf, hm] at h
      | some bs =>
        simp [hf, hm] at h
        subst h
        obtain ⟨h1, h2⟩ := ih hm
        refine ⟨by simp [h1], fun i hi hr => ?_⟩
        cases i with
        | zero => exact hf
        | succ i => exact h2 i (by simpa using hi) (by simpa using hr)

theorem toT_raise {H H' : Heap} (hr : Raise H H') : ∀ (d : Nat) (v : V) (x : T), toT H d v = some x → toT H' d v = some x := by
  intro d
  induction d with
  | zero => intro v x h; cases v <;> simpa [toT] using h
  | succ d ih =>
    have mm : ∀ (l : List V) (r : List T), l.mapM (toT H d) = some r → l.mapM (toT H' d) = some r := by
      intro l
      induction l with
      | nil => intro r h; simpa using h
      | cons a l ihl =>
        intro r h
        rw [List.mapM_cons] at h ⊢
        cases hf : toT H d a with
        | none => simp [hf] at h
        | some b =>
          cases hm : l.mapM (toT H d) with
          | none => simp [hf, hm] at h
          | some bs => simp [hf, hm] at h; simp [ih a b hf, ihl bs hm, h]
    intro v x h
    cases v with
    | ref id n =>
      simp only [toT] at h ⊢
      cases hc : cur H id n with
      | none => simp [hc] at h
      | some o =>
        obtain ⟨o', h1, e, _, _⟩ := hr.cur hc
        rw [h1]
        simp only [hc] at h
        simp only [e]
        cases hm : o.el.mapM (toT H d) with
        | none => simp [hm] at h
        | some bs => rw [mm _ _ hm]; simpa [hm] using h
    | agg cs =>
      simp only [toT] at h ⊢
      cases hm : cs.mapM (toT H d) with
      | none => simp [hm] at h
      | some bs => rw [mm _ _ hm]; simpa [hm] using h
    | _ => simpa [toT] using h

theorem toT_rt {w : World} {S : Cells} {H : Heap} {β : Bl} (hR : Rel w S H β) : ∀ (d : Nat) (v : V) (x : T) (u : Value), toT H d v = some x → AllSt H d v → RV w S H β v u → RT w S x u := by
  intro d
  induction d using Nat.strongRecOn with
  | ind d ih =>
    intro v x u ht ha hv
    have base : ∀ (y : V) (z : T) (u : Value), toT H 0 y = some z → RV w S H β y u → RT w S z u := by
      intro y z u h1 h2
      cases y <;> simp [toT] at h1 <;> subst h1
      · cases h2; assumption
      · cases h2; assumption
    cases d with
    | zero => exact base v x u ht hv
    | succ d =>
      cases v with
      | ref id n =>
        simp only [toT] at ht
        cases hc : cur H id n with
        | none => simp [hc] at ht
        | some o =>
          simp only [hc] at ht
          cases hm : o.el.mapM (toT H d) with
          | none => simp [hm] at ht
          | some xs =>
            simp [hm] at ht
            subst ht
            obtain ⟨hst, hall⟩ := ha o hc
            obtain ⟨h1, h2⟩ := cur_at hc
            cases hv with
            | ref _ _ _ hok =>
              obtain ⟨_, o', ho', hn, hb⟩ := hok
              rw [h1] at ho'; cases ho'
              obtain ⟨hp, b, cap, hβ, rfl, hcap⟩ := hb h2
              have hO := (hR.obj id o b cap h1 hβ).live hp
              obtain ⟨cs, Ty, hh, hsz, hcells⟩ := hO.row
              obtain ⟨hlen, hel⟩ := mapM_some hm
              have hnx : n = xs.length := by omega
              subst hnx
              refine RT.of_arr (esz := o.esz) ⟨fun i hi => ?_, fun i hi j hj => ?_⟩ hcap
              · -- as many cells
                have hi' : i < o.el.length := by omega
                have hc1 := (hcells i hi').1
                have := hel i hi' hi
                rw [← hc1]
                revert this
                generalize o.el[i] = y
                generalize xs[i] = z
                intro this
                cases d with
                | zero => cases y <;> simp [toT] at this <;> subst this <;> simp [V.cells, T.cells]
                          rename_i q; cases q <;> simp [V.cells, T.cells]
                | succ d' =>
                  cases y with
                  | t q => simp [toT] at this; subst this; cases q <;> simp [V.cells, T.cells]
                  | ex q => simp [toT] at this; subst this; simp [V.cells, T.cells]
                  | ref a b =>
                    simp only [toT] at this
                    cases hcc : cur H a b with
                    | none => simp [hcc] at this
                    | some oo =>
                      simp only [hcc] at this
                      cases hmm : oo.el.mapM (toT H d') with
                      | none => simp [hmm] at this
                      | some q => simp [hmm] at this; subst this; simp [V.cells, T.cells]
                  | agg cs' =>
                    simp only [toT] at this
                    cases hmm : cs'.mapM (toT H d') with
                    | none => simp [hmm] at this
                    | some q => simp [hmm] at this; subst this; simp [V.cells, T.cells, (mapM_some hmm).1]
                  | _ => simp [toT] at this
              · have hi' : i < o.el.length := by omega
                obtain ⟨hc1, hc2⟩ := hcells i hi'
                have hxi := hel i hi' hi
                have hai := hall _ (List.getElem_mem hi')
                revert hc1 hc2 hxi hai hj
                generalize o.el[i] = y
                generalize xs[i] = z
                intro hj hc1 hc2 hxi hai
                have hlenz : z.cells.length = y.cells.length ∧ ∀ (hjy : j < y.cells.length) (u : Value), RV w S H β y.cells[j] u → RT w S z.cells[j] u := by
                  cases y with
                  | t q =>
                    have : z = q := by cases d <;> simp [toT] at hxi <;> exact hxi.symm
                    subst this
                    refine ⟨by cases z <;> simp [V.cells, T.cells], fun hjy u hr => ?_⟩
                    have e : (V.t z).cells[j] = V.t (z.cells[j]) := by
                      cases z <;> simp [V.cells, T.cells] at hj ⊢
                    rw [e] at hr
                    cases hr; assumption
                  | ex q =>
                    have : z = .sl q := by cases d <;> simp [toT] at hxi <;> exact hxi.symm
                    subst this
                    refine ⟨rfl, fun hjy u hr => ?_⟩
                    have e : j = 0 := by simp [T.cells] at hj; omega
                    subst e
                    simp only [V.cells, T.cells, List.getElem_cons_zero] at hr ⊢
                    cases hr; assumption
                  | ref a b =>
                    cases d with
                    | zero => simp [toT] at hxi
                    | succ d' =>
                      have hz : z.cells = [z] := by
                        simp only [toT] at hxi
                        cases hcc : cur H a b with
                        | none => simp [hcc] at hxi
                        | some oo =>
                          simp only [hcc] at hxi
                          cases hmm : oo.el.mapM (toT H d') with
                          | none => simp [hmm] at hxi
                          | some q => simp [hmm] at hxi; subst hxi; rfl
                      refine ⟨by rw [hz]; rfl, fun hjy u hr => ?_⟩
                      have e : j = 0 := by simp [V.cells] at hjy; omega
                      subst e
                      simp only [hz, V.cells, List.getElem_cons_zero] at hr ⊢
                      exact ih (d' + 1) (by omega) _ _ _ hxi hai hr
                  | agg cs' =>
                    cases d with
                    | zero => simp [toT] at hxi
                    | succ d' =>
                      simp only [toT] at hxi
                      cases hmm : cs'.mapM (toT H d') with
                      | none => simp [hmm] at hxi
                      | some q =>
                        simp [hmm] at hxi; subst hxi
                        obtain ⟨hl', hq⟩ := mapM_some hmm
                        refine ⟨by simp [V.cells, T.cells, hl'], fun hjy u hr => ?_⟩
                        simp only [V.cells, T.cells] at hjy hj hr ⊢
                        exact ih d' (by omega) _ _ _ (hq j hjy hj) (hai _ (List.getElem_mem hjy)) hr
                  | _ => cases d <;> simp [toT] at hxi
                have hjy : j < y.cells.length := by rw [← hlenz.1]; exact hj
                obtain ⟨u, hu1, hu2⟩ := hc2 j hjy
                refine ⟨(hO.st _).2 ⟨hst, ?_⟩, u, ?_, hlenz.2 hjy u hu2⟩
                · have : j < o.esz := by omega
                  have h3 : (i + 1) * o.esz ≤ o.el.length * o.esz := Nat.mul_le_mul_right _ (by omega)
                  rw [Nat.succ_mul] at h3
                  omega
                · rw [cell_of_heap hh]
                  simpa using hu1
      | agg cs =>
        simp only [toT] at ht
        cases hm : cs.mapM (toT H d) with
        | none => simp [hm] at ht
        | some xs =>
          simp [hm] at ht
          subst ht
          obtain ⟨hlen, hel⟩ := mapM_some hm
          cases hv with
          | agg _ us hl h =>
            refine RT.agg xs us (by omega) fun i hi hu => ?_
            have hi' : i < cs.length := by omega
            exact ih d (by omega) _ _ _ (hel i hi' hi) (ha _ (List.getElem_mem hi')) (h i hi' hu)
      | t y => exact base _ _ _ (by simpa [toT] using ht) hv
      | ex y => exact base _ _ _ (by simpa [toT] using ht) hv
      | _ => simp [toT] at ht

theorem Rel.raise {w : World} {S : Cells} {H H' : Heap} {β : Bl} (h : Rel w S H β) (hr : Raise H H') :
    ∃ S', Ext w S H β w S' H' β ∧ Rel w S' H' β := by
  let S' : Cells := fun b j => S b j ∨ ∃ (id : Nat) (o : Obj) (c : Nat), H'[id]? = some o ∧ o.st = true ∧ β[id]? = some (b, c) ∧ j < o.el.length * o.esz
  have hs : Stay w S w S' := fun b j hS => ⟨.inl hS, rfl⟩
  have hg : Grow H β H' β := fun id o ho => by
    obtain ⟨o', h1, e, z, s⟩ := hr.2 id o ho
    exact ⟨o', h1, by rw [e]; exact Nat.le_refl _, fun _ => ⟨z, rfl⟩, fun h2 h3 => ⟨z.trans h2, by unfold Obj.gone at h3 ⊢; rw [e]; exact h3, rfl⟩⟩
  have down : ∀ (id : Nat) (o' : Obj), H'[id]? = some o' → ∃ o : Obj, H[id]? = some o ∧ o'.el = o.el ∧ o'.esz = o.esz ∧ (o.st = true → o'.st = true) := by
    intro id o' ho'
    have hl : id < H.length := by
      rcases Nat.lt_or_ge id H'.length with h' | h'
      · rw [← hr.1]; exact h'
      · rw [List.getElem?_eq_none h'] at ho'; cases ho'
    obtain ⟨o1, h1, e1, z1, s1⟩ := hr.2 id H[id] (List.getElem?_eq_getElem hl)
    rw [ho'] at h1; cases h1
    exact ⟨H[id], List.getElem?_eq_getElem hl, e1, z1, s1⟩
  have hinj : ∀ (i j b c c' : Nat) (oi oj : Obj), H'[i]? = some oi → H'[j]? = some oj → oi.alive → oj.alive → β[i]? = some (b, c) → β[j]? = some (b, c') → i = j := by
    intro i j b c c' oi oj h1 h2 a1 a2 e1 e2
    obtain ⟨pi, p1, p2, p3, _⟩ := down i oi h1
    obtain ⟨pj, q1, q2, q3, _⟩ := down j oj h2
    refine h.inj i j b c c' pi pj p1 q1 ?_ ?_ e1 e2
    · unfold Obj.alive Obj.gone at a1 ⊢; rw [← p2, ← p3]; exact a1
    · unfold Obj.alive Obj.gone at a2 ⊢; rw [← q2, ← q3]; exact a2
  refine ⟨S', ⟨rfl, rfl, Nat.le_refl _, fun _ _ _ => rfl, hs, ?_, hg, fun id _ c e => .inl ⟨id, c, e⟩⟩, ⟨h.len.trans hr.1.symm, hinj, ?_, ?_, h.base.trans hs⟩⟩
  · rintro b j (hS | ⟨id, o, c, _, _, e, _⟩)
    · exact .inl hS
    · exact .inr (.inr ⟨id, c, e⟩)
  · rintro b j (hS | ⟨id, o, c, _, _, e, _⟩)
    · exact h.lt b j hS
    · exact h.block e
  · intro id o' b c ho' e
    have hl : id < H.length := by
      rcases Nat.lt_or_ge id H'.length with h' | h'
      · rw [← hr.1]; exact h'
      · rw [List.getElem?_eq_none h'] at ho'; cases ho'
    have ho := List.getElem?_eq_getElem hl
    obtain ⟨o1, h1, e1, z1, s1⟩ := hr.2 id H[id] ho
    rw [ho'] at h1; cases h1
    have hB := h.obj id H[id] b c ho e
    have same : ∀ (id2 : Nat) (o2 : Obj) (c2 : Nat), o'.alive → H'[id2]? = some o2 → β[id2]? = some (b, c2) → ∀ j, j < o2.el.length * o2.esz → id2 = id := by
      intro id2 o2 c2 ha h2 e2 j hj
      have hz : 0 < o2.esz := by
        rcases Nat.eq_zero_or_pos o2.esz with h0 | h0
        · rw [h0] at hj; simp at hj
        · exact h0
      exact hinj id2 id b c2 c o2 o' h2 ho' (.inl hz) ha e2 e
    refine ⟨hB.blk, fun hp => ?_, fun h0 hgn => ?_⟩
    · have hO := hB.live (by rw [← z1]; exact hp)
      refine ⟨hp, by rw [e1]; exact hO.room, fun j => ?_, ?_⟩
      · constructor
        · rintro (hS | ⟨id2, o2, c2, h2, hst2, e2, hj⟩)
          · obtain ⟨a, b⟩ := (hO.st j).1 hS
            exact ⟨s1 a, by rw [e1, z1]; exact b⟩
          · have := same id2 o2 c2 (.inl hp) h2 e2 j hj
            subst this
            rw [ho'] at h2; cases h2
            exact ⟨hst2, hj⟩
        · rintro ⟨a, hj⟩
          exact .inr ⟨id, o', c, ho', a, e, hj⟩
      · obtain ⟨cs, Ty, h2, h3, h4⟩ := hO.row
        refine ⟨cs, Ty, h2, by rw [z1]; exact h3, ?_⟩
        rw [e1, z1]
        intro i hi
        refine ⟨(h4 i hi).1, fun j hj => ?_⟩
        obtain ⟨u, h5, h6⟩ := (h4 i hi).2 j hj
        exact ⟨u, h5, h6.mono hs hg⟩
    · have hM := hB.map (by rw [← z1]; exact h0) (by unfold Obj.gone at hgn ⊢; rw [← e1]; exact hgn)
      refine ⟨fun j => ?_, ?_⟩
      · rintro (hS | ⟨id2, o2, c2, h2, hst2, e2, hj⟩)
        · exact hM.st j hS
        · have := same id2 o2 c2 (.inr hgn) h2 e2 j hj
          subst this
          rw [ho'] at h2; cases h2
          rw [h0] at hj; simp at hj
      · obtain ⟨ks, es, clock, k1, k2, k3⟩ := hM.row
        exact ⟨ks, es, clock, by rw [e1]; exact k1, k2, k3⟩

theorem Rel.hold {w : World} {S : Cells} {H : Heap} {β : Bl} (h : Rel w S H β) (v : V) (u : Value) (hv : RV w S H β v u) :
    ∃ S', Ext w S H β w S' (hold depth H v) β ∧ Rel w S' (Go.Sim.hold depth H v) β ∧ ∀ x, toT H depth v = some x → RT w S' x u := by
  obtain ⟨S', hE, hR⟩ := h.raise (hold_raise depth H v)
  exact ⟨S', hE, hR, fun x hx => toT_rt hR depth v x u (toT_raise (hold_raise depth H v) depth v x hx) (hold_all depth H v) (hv.mono hE.stay hE.grow)⟩

end Go.Sim

namespace Go.Sim
variable [Base]

def Does (P : Program) (w : World) (S : Cells) (H : Heap) (β : Bl) (ρ : Operand → Value) (o : Oper) (r : Res) : Prop :=
  ∃ u w' S' β', ((execOp ρ o).run P w = .ok (.value u) w' ∨ ((execOp ρ o).run P w = .ok .skip w' ∧ u = undef)) ∧
    Ext w S H β w' S' r.H β' ∧ Rel w' S' r.H β' ∧ RV w' S' r.H β' r.v u

def Agree (w : World) (S : Cells) (H : Heap) (β : Bl) (e : Env) (ρ : Operand → Value) : Prop := ∀ x v, ev e x = some v → RV w S H β v (ρ x)

theorem Agree.mono {w w' : World} {S S' : Cells} {H H' : Heap} {β β' : Bl} {e : Env} {ρ : Operand → Value} (h : Agree w S H β e ρ) (hs : Stay w S w' S') (hg : Grow H β H' β') : Agree w' S' H' β' e ρ :=
  fun x v hv => (h x v hv).mono hs hg

theorem does_value {P w S H β ρ o v u} (hR : Rel w S H β) (hrun : (execOp ρ o).run P w = .ok (.value u) w) (hv : RV w S H β v u) : Does P w S H β ρ o ⟨v, H, .none⟩ :=
  ⟨u, w, S, β, .inl hrun, Ext.refl _ _ _ _, hR, hv⟩
theorem does_value' {P w S H β ρ o v u eff} (hR : Rel w S H β) (hrun : (execOp ρ o).run P w = .ok (.value u) w) (hv : RV w S H β v u) : Does P w S H β ρ o ⟨v, H, eff⟩ :=
  ⟨u, w, S, β, .inl hrun, Ext.refl _ _ _ _, hR, hv⟩

theorem allT_some : ∀ {cs : List V} {ts : List T}, allT cs = some ts → cs = ts.map V.t := by
  intro cs
  induction cs with
  | nil => intro ts h; simp [allT] at h; subst h; rfl
  | cons c cs ih =>
    intro ts h
    cases c <;> simp [allT] at h
    obtain ⟨ts', h1, rfl⟩ := h
    rw [ih h1]; rfl

theorem RV.mkAgg {w S H β} {cs : List V} {us : List Value} (hl : cs.length = us.length) (h : ∀ i (hi : i < cs.length) (hu : i < us.length), RV w S H β cs[i] us[i]) : RV w S H β (Go.Sim.mkAgg cs) (.agg us.toArray) := by
  unfold Go.Sim.mkAgg
  cases ha : allT cs with
  | none => exact .agg cs us hl h
  | some ts =>
    have e := allT_some ha
    subst e
    refine .t _ _ (.agg ts us (by simpa using hl) fun i hi hu => ?_)
    have := h i (by simpa using hi) hu
    rw [List.getElem_map] at this
    cases this; assumption

theorem ofScalar_rv {w S H β} {v : Value} {x : V} (h : ofScalar v = some x) : RV w S H β x v := by
  unfold ofScalar at h
  split at h
  · cases h; exact .t _ _ (.bool _)
  · cases h; exact .t _ _ (.int _ _)
  · cases h; exact .t _ _ (.str _)
  · cases h; exact .ex _ _ _ (.sl0 _ _)
  · cases h; exact .t _ _ .nilp
  · cases h; exact .t _ _ .nilm
  · cases h; exact .t _ _ .nilf
  · cases h; exact .t _ _ .nili
  · split at h
    · rename_i hh; obtain ⟨rfl, rfl⟩ := hh; cases h; exact .t _ _ (.fn _)
    · cases h
  · cases h

theorem ofVal_rv {w S H β} {v : Value} {x : V} (h : ofVal v = some x) : RV w S H β x v := by
  unfold ofVal at h
  split at h
  · rename_i cs
    cases hm : cs.toList.mapM ofScalar with
    | none => simp [hm] at h
    | some l =>
      simp [hm] at h
      subst h
      obtain ⟨h1, h2⟩ := mapM_some hm
      have := RV.mkAgg (w := w) (S := S) (H := H) (β := β) (cs := l) (us := cs.toList) h1.symm (fun i hi hu => ofScalar_rv (h2 i hu hi))
      simpa using this
  · exact ofScalar_rv h

theorem zeroV_rv {P : Program} {t : TypeId} {z : V} (h : zeroV P t = some z) : ∃ i zv, P.info? t = some i ∧ i.zero = some zv ∧ ∀ w S H β, RV w S H β z zv := by
  unfold zeroV at h
  cases hi : P.info? t with
  | none => simp [hi] at h
  | some i =>
    simp only [hi] at h
    cases hz : i.zero with
    | none => simp [hz] at h
    | some zv => simp only [hz, Option.bind_some] at h; exact ⟨i, zv, rfl, hz, fun _ _ _ _ => ofVal_rv h⟩

theorem rv_bool {w S H β b u} (h : RV w S H β (.t (.bool b)) u) : u = .bool b := by cases h with | t _ _ h => cases h; rfl
theorem rv_int {w S H β k n u} (h : RV w S H β (.t (.int k n)) u) : u = .int k n := by cases h with | t _ _ h => cases h; rfl
theorem rv_str {w S H β s u} (h : RV w S H β (.t (.str s)) u) : u = .string s := by cases h with | t _ _ h => cases h; rfl
theorem rv_t {w S H β x u} (h : RV w S H β (.t x) u) : RT w S x u := by cases h; assumption

theorem run_info {P : Program} {t : TypeId} {i : TypeInfo} (h : P.info? t = some i) (w : World) : (typeInfo t).run P w = .ok i w := by
  simp [typeInfo, h]
theorem run_size {P : Program} {t : TypeId} {i : TypeInfo} (h : P.info? t = some i) (w : World) : (sizeOf t).run P w = .ok i.size w := by
  simp [sizeOf, run_info h]
theorem run_zero {P : Program} {t : TypeId} {i : TypeInfo} {z : Value} (h : P.info? t = some i) (hz : i.zero = some z) (w : World) : (zeroValue t).run P w = .ok z w := by
  simp [zeroValue, run_info h, hz]
theorem run_und {P : Program} {t : TypeId} {d : TypeDesc} (h : P.underlying t = some d) (w : World) : (underlying t).run P w = .ok d w := run_underlying h w
theorem run_new (P : Program) (o : Go.Obj) (w : World) : (newObj o).run P w = .ok w.heap.size (w.alloc o) := rfl
theorem run_row (P : Program) (t : TypeId) (cs : Array Value) (w : World) : (newRow t cs).run P w = .ok ⟨w.heap.size, 0, none⟩ (w.alloc (.cells cs t)) := by
  simp [newRow, run_new]
theorem run_agg {P : Program} {t : TypeId} {d : TypeDesc} (h : P.underlying t = some d) (w : World) : (isAgg t).run P w = .ok (isAggT P t) w := by
  simp only [isAgg, Sem.run_bind, run_und h, Result.andThen_ok, isAggT, h]
  cases d <;> rfl

theorem kd_sl {P : Program} {t e : TypeId} (h : kdOf P t = .sl e) : P.underlying t = some (.slice e) := by
  unfold kdOf at h; split at h <;> simp_all
theorem kd_arr {P : Program} {t e : TypeId} {n : Nat} (h : kdOf P t = .arr n e) : P.underlying t = some (.array n e) := by
  unfold kdOf at h; split at h <;> simp_all
theorem kd_str {P : Program} {t : TypeId} (h : kdOf P t = .str) : P.underlying t = some .string := by
  unfold kdOf at h; split at h <;> simp_all
theorem kd_int {P : Program} {t : TypeId} {k : IntKind} (h : kdOf P t = .int k) : P.underlying t = some (.int k) := by
  unfold kdOf at h; split at h <;> simp_all
theorem kd_bool {P : Program} {t : TypeId} (h : kdOf P t = .bool) : P.underlying t = some .bool := by
  unfold kdOf at h; split at h <;> simp_all
theorem kd_struct {P : Program} {t : TypeId} (h : kdOf P t = .struct) : ∃ fs, P.underlying t = some (.struct fs) := by
  unfold kdOf at h; split at h <;> simp_all
theorem info_of {P : Program} {t : TypeId} {p : Nat × Nat} (h : infoOf P t = some p) : ∃ i, P.info? t = some i ∧ i.size = p.1 ∧ i.bytes = p.2 := by
  unfold infoOf at h
  cases hi : P.info? t with
  | none => simp [hi] at h
  | some i => simp [hi] at h; subst h; exact ⟨i, rfl, rfl, rfl⟩
theorem ty_of {P : Program} {t : TypeId} {p : Bool × Nat} (h : tyOf P t = some p) : ∃ d i, P.underlying t = some d ∧ P.info? t = some i ∧ isAggT P t = p.1 ∧ i.size = p.2 := by
  unfold tyOf at h
  cases hd : P.underlying t with
  | none => simp [hd] at h
  | some d =>
    cases hi : P.info? t with
    | none => simp [hd, hi] at h
    | some i => simp [hd, hi] at h; subst h; exact ⟨d, i, rfl, rfl, rfl, rfl⟩

theorem does_var {P w S H β ρ o v u T} (hR : Rel w S H β) (hst : v.storable = true) (hv : RV w S H β v u)
    (hrun : (execOp ρ o).run P w = .ok (.value (.pointer (some ⟨w.heap.size, 0, none⟩))) (w.alloc (.cells u.cells T))) :
    Does P w S H β ρ o ⟨.ptr H.length 1 0 0, H ++ [⟨[v], v.cells.length, false⟩], .none⟩ := by
  obtain ⟨hl, hc⟩ := hv.cells
  have hpos : 0 < v.cells.length := by
    cases hcs : v.cells with
    | nil => simp [V.storable, hcs] at hst
    | cons a b => simp
  obtain ⟨hE, hR'⟩ := hR.push (cs := u.cells) (T := T) (o := ⟨[v], v.cells.length, false⟩) (cap := 1) rfl hpos (by simp) (by simp [hl]) (by
    intro i hi
    have : i = 0 := by simp at hi; omega
    subst this
    refine ⟨rfl, fun j hj => ?_⟩
    have hj' : j < v.cells.length := hj
    refine ⟨u.cells[j]'(by omega), ?_, hc j hj' (by omega)⟩
    simp)
  refine ⟨_, _, S, _, .inl hrun, hE, hR', .ptr _ _ _ _ _ ⟨⟨_, _, rfl⟩, ⟨[v], v.cells.length, false⟩, by simp, by simp, fun _ => ⟨hpos, w.heap.size, 1, ?_, by simp⟩⟩⟩
  rw [← hR.len]; simp

section
variable {P : Program} {w : World} {S : Cells} {H : Heap} {β : Bl} {e : Env} {ρ : Operand → Value} {r : Res} {dst : Option Tmp} {ty : TypeId} {pos : String} {af : Array Edge} {g : Option (Nat × Bool)}

theorem d_move (hR : Rel w S H β) (hA : Agree w S H β e ρ) {x} (h : opRun P (.move x) e H = some r) : Does P w S H β ρ ⟨dst, .move x, ty, pos, af, g⟩ r := by
  simp only [opRun] at h
  cases hx : ev e x with
  | none => simp [hx] at h
  | some v => simp [hx, ret] at h; subst h; exact does_value hR (by simp [execOp]) (hA x v hx)
theorem d_assign (hR : Rel w S H β) (hA : Agree w S H β e ρ) {x} (h : opRun P (.assign x) e H = some r) : Does P w S H β ρ ⟨dst, .assign x, ty, pos, af, g⟩ r := by
  simp only [opRun] at h
  cases hx : ev e x with
  | none => simp [hx] at h
  | some v => simp [hx, ret] at h; subst h; exact does_value hR (by simp [execOp]) (hA x v hx)
theorem d_pick (hR : Rel w S H β) (hA : Agree w S H β e ρ) {c a b} (h : opRun P (.pick c a b) e H = some r) : Does P w S H β ρ ⟨dst, .pick c a b, ty, pos, af, g⟩ r := by
  simp only [opRun] at h
  split at h
  · rename_i hc
    have hρ := rv_bool (hA c _ hc)
    cases hx : ev e a with
    | none => simp [hx] at h
    | some v =>
      simp [hx, ret] at h; subst h
      refine does_value hR (u := ρ a) ?_ (hA a v hx)
      simp [execOp, asBool, hρ]
  · rename_i hc
    have hρ := rv_bool (hA c _ hc)
    cases hx : ev e b with
    | none => simp [hx] at h
    | some v =>
      simp [hx, ret] at h; subst h
      refine does_value hR (u := ρ b) ?_ (hA b v hx)
      simp [execOp, asBool, hρ]
  · cases h
theorem d_alloc (hR : Rel w S H β) {t} (h : opRun P (.alloc t) e H = some r) : Does P w S H β ρ ⟨dst, .alloc t, ty, pos, af, g⟩ r := by
  simp only [opRun] at h
  cases hz : zeroV P t with
  | none => simp [hz] at h
  | some z =>
    simp only [hz] at h
    split at h
    · rename_i hst
      cases h
      obtain ⟨i, zv, hi, hzv, hrv⟩ := zeroV_rv hz
      exact does_var (T := t) hR hst (hrv w S H β) (by simp [execOp, Instr.alloc, run_zero hi hzv, newVar, run_row])
    · cases h
theorem d_box (hR : Rel w S H β) (hA : Agree w S H β e ρ) {t x} (h : opRun P (.box t x) e H = some r) : Does P w S H β ρ ⟨dst, .box t x, ty, pos, af, g⟩ r := by
  simp only [opRun] at h
  cases hx : ev e x with
  | none => simp [hx] at h
  | some v =>
    simp only [hx] at h
    split at h
    · rename_i hst
      cases h
      exact does_var (T := t) hR hst (hA x v hx) (by simp [execOp, Instr.box, newVar, run_row])
    · cases h
theorem add0 (b o n : Nat) : (⟨b, o, none⟩ : Addr).add n = ⟨b, o + n, none⟩ := by unfold Addr.add; split <;> simp_all

theorem rdV_rv {w S H β} {v : V} {esz off sz : Nat} {a : Bool} {u : V} {cs : Nat → Option Value} (hl : v.cells.length = esz)
    (hc : ∀ j (hj : j < v.cells.length), ∃ x, cs j = some x ∧ RV w S H β v.cells[j] x) (h : rdV v esz off a sz = some u) :
    (a = true → ∃ us : List Value, us.length = sz ∧ (∀ j x, us[j]? = some x → cs (off + j) = some x) ∧ RV w S H β u (.agg us.toArray)) ∧
    (a = false → ∃ x, cs off = some x ∧ RV w S H β u x) := by
  have mk : ∀ (n k : Nat), k + n ≤ v.cells.length → ∃ us : List Value, us.length = n ∧ ∀ j (hj : j < us.length) (hj' : k + j < v.cells.length), cs (k + j) = some us[j] ∧ RV w S H β v.cells[k + j] us[j] := by
    intro n
    induction n with
    | zero => intro k _; exact ⟨[], rfl, fun j hj => by simp at hj⟩
    | succ n ih =>
      intro k hk
      obtain ⟨us, h1, h2⟩ := ih (k + 1) (by omega)
      obtain ⟨x, hx, hv⟩ := hc k (by omega)
      refine ⟨x :: us, by simp [h1], fun j hj hj' => ?_⟩
      cases j with
      | zero => exact ⟨hx, hv⟩
      | succ j =>
        have := h2 j (by simpa using hj) (by omega)
        have e : k + 1 + j = k + (j + 1) := by omega
        simp only [e] at this
        exact this
  unfold rdV at h
  cases a with
  | true =>
    refine ⟨fun _ => ?_, fun h => (by cases h)⟩
    simp only [if_true] at h
    split at h
    · rename_i hh
      obtain ⟨rfl, rfl, hag⟩ := hh
      cases h
      obtain ⟨us, h1, h2⟩ := mk v.cells.length 0 (by omega)
      refine ⟨us, by omega, fun j x hj => ?_, ?_⟩
      · have hlt : j < us.length := by
          rcases Nat.lt_or_ge j us.length with h' | h'
          · exact h'
          · rw [List.getElem?_eq_none h'] at hj; cases hj
        rw [List.getElem?_eq_getElem hlt] at hj; cases hj
        exact (h2 j hlt (by omega)).1
      · cases v with
        | agg cs' =>
          refine .agg cs' us (by simpa [V.cells] using h1.symm) fun i hi hu => ?_
          have := (h2 i hu (by simpa [V.cells] using hi)).2
          simpa [V.cells] using this
        | t x =>
          cases x with
          | agg cs' =>
            refine .t _ _ (.agg cs' us (by simpa [V.cells] using h1.symm) fun i hi hu => ?_)
            have := (h2 i hu (by simpa [V.cells] using hi)).2
            exact rv_t (by simpa [V.cells] using this)
          | _ => simp [V.isAgg, T.isAgg] at hag
        | _ => simp [V.isAgg] at hag
    · split at h
      · rename_i hb
        cases h
        obtain ⟨us, h1, h2⟩ := mk sz off hb
        refine ⟨us, h1, fun j x hj => ?_, ?_⟩
        · have hlt : j < us.length := by
            rcases Nat.lt_or_ge j us.length with h' | h'
            · exact h'
            · rw [List.getElem?_eq_none h'] at hj; cases hj
          rw [List.getElem?_eq_getElem hlt] at hj; cases hj
          exact (h2 j hlt (by omega)).1
        · refine RV.mkAgg (by simp [h1]; omega) fun i hi hu => ?_
          have := (h2 i hu (by simp at hi; omega)).2
          simpa using this
      · cases h
  | false =>
    refine ⟨fun h => (by cases h), fun _ => ?_⟩
    simp only [Bool.false_eq_true, if_false] at h
    have hlt : off < v.cells.length := by
      rcases Nat.lt_or_ge off v.cells.length with h' | h'
      · exact h'
      · rw [List.getElem?_eq_none h'] at h; cases h
    rw [List.getElem?_eq_getElem hlt] at h; cases h
    exact hc off hlt

theorem run_loadVar {P : Program} {t : TypeId} {d : TypeDesc} {i : TypeInfo} (hd : P.underlying t = some d) (hi : P.info? t = some i) (w : World) (b o : Nat) :
    (loadVar t ⟨b, o, none⟩).run P w = if isAggT P t = true then ((loadCells ⟨b, o, none⟩ i.size).run P w).andThen fun cs w' => .ok (.agg cs) w' else (load ⟨b, o, none⟩).run P w := by
  simp only [loadVar, Sem.run_bind, run_agg hd, Result.andThen_ok]
  cases isAggT P t <;> simp [run_size hi]

theorem load_at {P : Program} {w : World} {S H β} {t : TypeId} {a : Bool} {sz : Nat} (hty : tyOf P t = some (a, sz)) {v u : V} {esz off b o : Nat} (hl : v.cells.length = esz)
    (hc : ∀ j (hj : j < v.cells.length), ∃ x, w.cell? ⟨b, o + j, none⟩ = some x ∧ RV w S H β v.cells[j] x) (h : rdV v esz off a sz = some u) :
    ∃ x, (loadVar t ⟨b, o + off, none⟩).run P w = .ok x w ∧ RV w S H β u x := by
  obtain ⟨d, i, hd, hi, rfl, rfl⟩ := ty_of hty
  obtain ⟨h1, h2⟩ := rdV_rv (cs := fun j => w.cell? ⟨b, o + j, none⟩) hl hc h
  rw [run_loadVar hd hi]
  cases ha : isAggT P t with
  | true =>
    obtain ⟨us, h3, h4, h5⟩ := h1 ha
    refine ⟨_, ?_, h5⟩
    have := run_loadCells_list (P := P) w ⟨b, o + off, none⟩ us (fun j x hj => by rw [add0, Nat.add_assoc]; exact h4 j x hj)
    rw [h3] at this
    simp [this]
  | false =>
    obtain ⟨x, h3, h4⟩ := h2 ha
    refine ⟨x, ?_, h4⟩
    simp only [Bool.false_eq_true, if_false, run_load]
    rw [h3]

theorem d_load (hR : Rel w S H β) (hA : Agree w S H β e ρ) {t x} (h : opRun P (.load t x) e H = some r) : Does P w S H β ρ ⟨dst, .load t x, ty, pos, af, g⟩ r := by
  simp only [opRun] at h
  cases hx : ev e x with
  | none => simp [hx] at h
  | some v =>
    simp only [hx, Option.bind_some] at h
    have hv := hA x v hx
    unfold loadV at h
    split at h
    · rename_i a sz id n i off hty
      cases hc : cur H id n with
      | none => simp [hc] at h
      | some o =>
        simp only [hc, Option.bind_some] at h
        cases hi : o.el[i]? with
        | none => simp [hi] at h
        | some y =>
          simp only [hi, Option.bind_some] at h
          cases hr : rdV y o.esz off a sz with
          | none => simp [hr] at h
          | some u =>
            simp [hr] at h; subst h
            obtain ⟨h1, h2⟩ := cur_at hc
            cases hv with
            | ptr _ _ _ _ _ hok =>
              obtain ⟨_, o', ho', _, hb⟩ := hok
              rw [h1] at ho'; cases ho'
              obtain ⟨hp, b, cap, hβ, hu⟩ := hb h2
              obtain ⟨cs, Ty, hh, hsz, hcells⟩ := ((hR.obj id o b cap h1 hβ).live hp).row
              have hil : i < o.el.length := by
                rcases Nat.lt_or_ge i o.el.length with h' | h'
                · exact h'
                · rw [List.getElem?_eq_none h'] at hi; cases hi
              rw [List.getElem?_eq_getElem hil] at hi; cases hi
              obtain ⟨hl, hcs⟩ := hcells i hil
              obtain ⟨x', h3, h4⟩ := load_at (P := P) (w := w) (b := b) (o := i * o.esz) hty hl (fun j hj => by
                obtain ⟨q, hq1, hq2⟩ := hcs j hj
                exact ⟨q, by rw [cell_of_heap hh]; exact hq1, hq2⟩) hr
              exact does_value' hR (by simp [execOp, Instr.loadAt, Instr.sureAddr, hu, h3]) h4
    · rename_i a sz xs i off hty
      cases hi : xs[i]? with
      | none => simp [hi] at h
      | some y =>
        simp only [hi, Option.bind_some] at h
        cases hr : rdV (.t y) y.cells.length off a sz with
        | none => simp [hr] at h
        | some u =>
          simp [hr] at h; subst h
          have hil : i < xs.length := by
            rcases Nat.lt_or_ge i xs.length with h' | h'
            · exact h'
            · rw [List.getElem?_eq_none h'] at hi; cases hi
          rw [List.getElem?_eq_getElem hil] at hi; cases hi
          generalize hρ : ρ x = q at hv
          cases hv with
          | tp _ _ _ b o esz _ harr =>
            have hcl : ∀ (z : T), (V.t z).cells.length = z.cells.length ∧ ∀ j (hj : j < (V.t z).cells.length) (hj' : j < z.cells.length), (V.t z).cells[j] = V.t z.cells[j] := by
              intro z; cases z <;> simp [V.cells, T.cells]
            obtain ⟨hl, hcs⟩ := hcl xs[i]
            obtain ⟨x', h3, h4⟩ := load_at (P := P) (w := w) (S := S) (H := H) (β := β) (b := b) (o := o + i * esz) hty hl (fun j hj => by
              obtain ⟨_, q, hq1, hq2⟩ := harr.2 i hil j (by omega)
              exact ⟨q, hq1, by rw [hcs j hj (by omega)]; exact .t _ _ hq2⟩) hr
            exact does_value hR (by simp [execOp, Instr.loadAt, Instr.sureAddr, hρ, h3]) h4
    · cases h
end
end Go.Sim

namespace Go.Sim
variable [Base]

def splice {α : Type} (l : List α) (a : Nat) (us : List α) : List α := l.take a ++ us ++ l.drop (a + us.length)

theorem splice_len {α : Type} (l : List α) (a : Nat) (us : List α) (h : a + us.length ≤ l.length) : (splice l a us).length = l.length := by
  simp [splice]; omega
theorem splice_get {α : Type} (l : List α) (a : Nat) (us : List α) (h : a + us.length ≤ l.length) (q : Nat) :
    (splice l a us)[q]? = if q < a then l[q]? else if q < a + us.length then us[q - a]? else l[q]? := by
  unfold splice
  by_cases h1 : q < a
  · rw [if_pos h1, List.append_assoc, List.getElem?_append_left (by simp; omega), List.getElem?_take, if_pos h1]
  · rw [if_neg h1]
    by_cases h2 : q < a + us.length
    · rw [if_pos h2, List.getElem?_append_left (by simp; omega), List.getElem?_append_right (by simp; omega)]
      congr 1
      simp; omega
    · rw [if_neg h2, List.getElem?_append_right (by simp; omega), List.getElem?_drop]
      congr 1
      simp; omega

theorem wrV_cells {v u v' : V} {esz off : Nat} (hl : v.cells.length = esz) (h : wrV v esz off u = some v') : off + u.cells.length ≤ esz ∧ v'.cells = splice v.cells off u.cells := by
  unfold wrV at h
  split at h
  · rename_i hh
    obtain ⟨rfl, hu⟩ := hh
    cases h
    refine ⟨by omega, ?_⟩
    unfold splice
    rw [List.take_zero, List.nil_append, List.drop_eq_nil_of_le (by omega), List.append_nil]
  · split at h
    · rename_i hb
      cases h
      refine ⟨by omega, ?_⟩
      show (mkAgg _).cells = _
      unfold mkAgg
      cases ha : allT (v.cells.take off ++ u.cells ++ v.cells.drop (off + u.cells.length)) with
      | none => rfl
      | some ts => rw [splice, allT_some ha]; rfl
    · cases h

theorem cell1_one {w S H β} {v : V} {u : Value} (h : RV w S H β v u) (hc : v.cell1 = true) : u.oneCell' = true := by
  cases h with
  | t x u h => cases h <;> first | rfl | assumption | simp [V.cell1] at hc
  | ex xs A n h => rfl
  | ref id n u h => obtain ⟨⟨A, c, rfl⟩, _⟩ := h; rfl
  | ptr id n i off u h => obtain ⟨⟨A, k, rfl⟩, _⟩ := h; rfl
  | tp => rfl
  | agg => simp [V.cell1] at hc
  | tup => simp [V.cell1] at hc
  | fn => rfl
  | mp id u h => obtain ⟨o, _, _, _, b, cap, _, rfl⟩ := h; rfl
  | ifc => rfl
  | dead => simp [V.cell1] at hc

theorem stor_one {w S H β} {v : V} {u : Value} (h : RV w S H β v u) (hc : v.storable = true) : ∀ x ∈ u.cells.toList, x.oneCell' = true := by
  obtain ⟨hl, hcs⟩ := h.cells
  intro x hx
  obtain ⟨j, hj, rfl⟩ := List.mem_iff_getElem.1 hx
  have hj' : j < u.cells.size := by simpa using hj
  have hjv : j < v.cells.length := by omega
  have h1 := hcs j hjv hj'
  have h2 : (v.cells[j]).cell1 = true := by
    simp only [V.storable, Bool.and_eq_true, List.all_eq_true] at hc
    exact hc.2 _ (List.getElem_mem hjv)
  have := cell1_one h1 h2
  simpa using this

theorem told_row {w : World} {b : Nat} {cs cs' : Array Value} {T : TypeId} (hcs : w.heap[b]? = some (.cells cs T (0, 0))) : ∀ (b' : Nat) (g : Go.Obj), w.heap[b']? = some g → told g = true → ∃ g', (w.setRow b cs').heap[b']? = some g' ∧ told g' = true := by
  intro b' g h1 h2
  by_cases e : b' = b
  · subst e
    exact ⟨_, setRow_heap w b' cs cs' T (0, 0) hcs, rfl⟩
  · exact ⟨g, by rw [setRow_other w b b' cs' e]; exact h1, h2⟩
theorem Rel.write {w : World} {S : Cells} {H : Heap} {β : Bl} (hR : Rel w S H β) {id : Nat} {o : Obj} {b cap : Nat} (ho : H[id]? = some o) (hp : 0 < o.esz) (hβ : β[id]? = some (b, cap)) (hst : o.st = false)
    {el : List V} (hlen : el.length = o.el.length) {cs : Array Value} {T : TypeId} (hcs : w.heap[b]? = some (.cells cs T (0, 0))) {cs' : Array Value} (hsz : cs'.size = cs.size)
    (hc : ∀ i (hi : i < el.length), (el[i]).cells.length = o.esz ∧ ∀ j (hj : j < (el[i]).cells.length), ∃ u, cs'[i * o.esz + j]? = some u ∧ RV w S H β (el[i]).cells[j] u) :
    Ext w S H β (w.setRow b cs') S (H.set id { o with el := el }) β ∧ Rel (w.setRow b cs') S (H.set id { o with el := el }) β := by
  have hO := (hR.obj id o b cap ho hβ).live hp
  have hb : ∀ j, ¬ S b j := fun j hS => by have := (hO.st j).1 hS; rw [hst] at this; exact absurd this.1 (by simp)
  have hid : id < H.length := by
    rcases Nat.lt_or_ge id H.length with h' | h'
    · exact h'
    · rw [List.getElem?_eq_none h'] at ho; cases ho
  have hs : Stay w S (w.setRow b cs') S := fun b' j hS => ⟨hS, cell_same (setRow_other w b b' cs' (fun e => hb j (e ▸ hS))) j⟩
  have hg : Grow H β (H.set id { o with el := el }) β := by
    intro id' o' ho'
    by_cases e : id = id'
    · subst e
      rw [ho] at ho'; cases ho'
      exact ⟨{ o with el := el }, by simp [hid], by simp [hlen], fun _ => ⟨rfl, rfl⟩, fun h0 => by omega⟩
    · exact ⟨o', by rw [List.getElem?_set_ne e]; exact ho', Nat.le_refl _, fun _ => ⟨rfl, rfl⟩, fun h1 h2 => ⟨h1, h2, rfl⟩⟩
  refine ⟨⟨rfl, rfl, by simp, fun b' _ hn => setRow_other w b b' cs' (fun e => hn id cap (e ▸ hβ)), hs, fun _ _ h => .inl h, hg, fun id _ c e => .inl ⟨id, c, e⟩⟩,
    ⟨by simp [hR.len], hR.injSet ho (.inl hp), fun b' j hS => by simpa using hR.lt b' j hS, ?_, hR.base.trans hs⟩⟩
  intro id' o' b' c' ho' hβ'
  by_cases e : id = id'
  · subst e
    rw [hβ] at hβ'; cases hβ'
    simp [hid] at ho'
    subst ho'
    have hlt : b < w.heap.size := heap_lt hcs
    refine ⟨⟨_, setRow_heap w b cs cs' T (0, 0) hcs, rfl⟩, fun _ => ?_, fun h0 => absurd hp (by simp only at h0; omega)⟩
    refine ⟨hO.pos, by simpa [hlen] using hO.room, fun j => ?_, cs', T, setRow_heap w b cs cs' T (0, 0) hcs, ?_, fun i hi => ⟨(hc i hi).1, fun j hj => ?_⟩⟩
    · simp only [hlen]; exact hO.st j
    · obtain ⟨cs2, T2, h1, h2, _⟩ := hO.row
      rw [hcs] at h1; cases h1
      rw [hsz]; exact h2
    · obtain ⟨u, h1, h2⟩ := (hc i hi).2 j hj
      exact ⟨u, h1, h2.mono hs hg⟩
  · rw [List.getElem?_set_ne e] at ho'
    have hne : o'.alive → b' ≠ b := fun ha e' => e (hR.inj id id' b cap c' o o' ho ho' (.inl hp) ha hβ (e' ▸ hβ'))
    exact (hR.obj id' o' b' c' ho' hβ').other hs hg (told_row hcs) (fun ha => setRow_other w b b' cs' (hne ha)) (fun _ _ => Iff.rfl)

section
variable {P : Program} {w : World} {S : Cells} {H : Heap} {β : Bl} {e : Env} {ρ : Operand → Value} {r : Res} {dst : Option Tmp} {ty : TypeId} {pos : String} {af : Array Edge} {g : Option (Nat × Bool)}

theorem d_store (hR : Rel w S H β) (hA : Agree w S H β e ρ) {t x y} (h : opRun P (.store t x y) e H = some r) : Does P w S H β ρ ⟨dst, .store t x y, ty, pos, af, g⟩ r := by
  simp only [opRun] at h
  cases hx : ev e x with
  | none => simp [hx] at h
  | some v =>
    cases hy : ev e y with
    | none => simp [hx, hy] at h
    | some u =>
      simp only [hx, hy] at h
      have hv := hA x v hx
      have hu := hA y u hy
      unfold storeV at h
      split at h
      · rename_i a sz id n i off hty
        cases hc : cur H id n with
        | none => simp [hc] at h
        | some o =>
          simp only [hc, Option.bind_some] at h
          cases hi : o.el[i]? with
          | none => simp [hi] at h
          | some v0 =>
            simp only [hi, Option.bind_some] at h
            split at h
            · rename_i hh
              obtain ⟨hst, hsu, hsz⟩ := hh
              cases hr : wrV v0 o.esz off u with
              | none => simp [hr] at h
              | some v' =>
                simp [hr] at h; subst h
                obtain ⟨h1, h2⟩ := cur_at hc
                cases hv with
                | ptr _ _ _ _ _ hok =>
                  obtain ⟨_, o', ho', _, hb⟩ := hok
                  rw [h1] at ho'; cases ho'
                  obtain ⟨hp, b, cap, hβ, hρ⟩ := hb h2
                  have hO := (hR.obj id o b cap h1 hβ).live hp
                  obtain ⟨cs, Ty, hh, hsize, hcells⟩ := hO.row
                  have hil : i < o.el.length := by
                    rcases Nat.lt_or_ge i o.el.length with h' | h'
                    · exact h'
                    · rw [List.getElem?_eq_none h'] at hi; cases hi
                  have hv0 : o.el[i] = v0 := by rw [List.getElem?_eq_getElem hil] at hi; exact Option.some.inj hi
                  obtain ⟨hl, hcs⟩ := hcells i hil
                  rw [hv0] at hl
                  have hcs : ∀ j (hj : j < v0.cells.length), ∃ u, cs[i * o.esz + j]? = some u ∧ RV w S H β v0.cells[j] u := by subst hv0; exact hcs
                  obtain ⟨hle, hv'⟩ := wrV_cells hl hr
                  obtain ⟨hul, huc⟩ := hu.cells
                  have hroom : (i + 1) * o.esz ≤ cap * o.esz := Nat.mul_le_mul_right _ (by have := hO.room; omega)
                  rw [Nat.succ_mul] at hroom
                  have hfit : i * o.esz + off + (ρ y).cells.toList.length ≤ cs.size := by
                    rw [hsize]; simp; omega
                  have hrun := run_storeCells_at P b (i * o.esz + off) Ty (ρ y).cells.toList 0 cs w hh (by omega) (stor_one hu hsu)
                  obtain ⟨d, inf, hd, hinf, hia, his⟩ := ty_of hty
                  let cs' : Array Value := (splice cs.toList (i * o.esz + off) (ρ y).cells.toList).toArray
                  obtain ⟨hE, hR'⟩ := hR.write h1 hp hβ hst (el := o.el.set i v') (by simp) hh (cs' := cs') (by
                    show (splice _ _ _).toArray.size = _
                    simp only [List.size_toArray]
                    rw [splice_len _ _ _ (by simpa using hfit)]; simp) (by
                    intro k hk
                    have hk' : k < o.el.length := by simpa using hk
                    by_cases e : i = k
                    · subst e
                      have e1 : (o.el.set i v')[i]'hk = v' := by simp
                      rw [e1, hv']
                      refine ⟨by rw [splice_len _ _ _ (by omega)]; exact hl, fun j hj => ?_⟩
                      have hj' : j < v0.cells.length := by rw [splice_len _ _ _ (by omega)] at hj; exact hj
                      have hget := splice_get cs.toList (i * o.esz + off) (ρ y).cells.toList (by simpa using hfit) (i * o.esz + j)
                      have hget2 := splice_get v0.cells off u.cells (by omega) j
                      rw [List.getElem?_eq_getElem hj] at hget2
                      show ∃ q, (splice _ _ _).toArray[i * o.esz + j]? = some q ∧ _
                      rw [List.getElem?_toArray, hget]
                      by_cases c1 : j < off
                      · rw [if_pos (by omega)]
                        rw [if_pos c1, List.getElem?_eq_getElem hj'] at hget2
                        simp only [Option.some.injEq] at hget2
                        rw [hget2]
                        obtain ⟨q, hq1, hq2⟩ := hcs j hj'
                        exact ⟨q, by simpa using hq1, hq2⟩
                      · rw [if_neg (by omega)]
                        rw [if_neg c1] at hget2
                        by_cases c2 : j < off + u.cells.length
                        · rw [if_pos (by simp; omega)]
                          have hlt : j - off < u.cells.length := by omega
                          rw [if_pos c2, List.getElem?_eq_getElem hlt] at hget2
                          simp only [Option.some.injEq] at hget2
                          rw [hget2]
                          have hlt' : j - off < (ρ y).cells.size := by omega
                          refine ⟨(ρ y).cells[j - off], ?_, huc (j - off) hlt hlt'⟩
                          have e2 : i * o.esz + j - (i * o.esz + off) = j - off := by omega
                          rw [e2]
                          simp [hlt']
                        · rw [if_neg (by simp; omega)]
                          rw [if_neg c2, List.getElem?_eq_getElem hj'] at hget2
                          simp only [Option.some.injEq] at hget2
                          rw [hget2]
                          obtain ⟨q, hq1, hq2⟩ := hcs j hj'
                          exact ⟨q, by simpa using hq1, hq2⟩
                    · have e1 : (o.el.set i v')[k]'hk = o.el[k] := by rw [List.getElem_set_ne e]
                      rw [e1]
                      obtain ⟨hlk, hck⟩ := hcells k hk'
                      refine ⟨hlk, fun j hj => ?_⟩
                      obtain ⟨q, hq1, hq2⟩ := hck j hj
                      refine ⟨q, ?_, hq2⟩
                      have hget := splice_get cs.toList (i * o.esz + off) (ρ y).cells.toList (by simpa using hfit) (k * o.esz + j)
                      show (splice _ _ _).toArray[k * o.esz + j]? = some q
                      rw [List.getElem?_toArray, hget]
                      have hj' : j < o.esz := by omega
                      rcases Nat.lt_or_gt_of_ne e with hlt | hgt
                      · have : (i + 1) * o.esz ≤ k * o.esz := Nat.mul_le_mul_right _ hlt
                        rw [Nat.succ_mul] at this
                        rw [if_neg (by omega), if_neg (by simp; omega)]
                        simpa using hq1
                      · have : (k + 1) * o.esz ≤ i * o.esz := Nat.mul_le_mul_right _ hgt
                        rw [Nat.succ_mul] at this
                        rw [if_pos (by omega)]
                        simpa using hq1)
                  refine ⟨undef, _, S, β, .inr ⟨?_, rfl⟩, hE, hR', .dead⟩
                  simp only [Nat.add_zero] at hrun
                  have hsz' : (ρ y).cells.size = inf.size := by rw [his]; show _ = sz; omega
                  simp [execOp, Instr.storeAt, Instr.sureAddr, hρ, storeVar, run_size hinf, hsz', hrun, cs', splice]
            · cases h
      · cases h
end
end Go.Sim
