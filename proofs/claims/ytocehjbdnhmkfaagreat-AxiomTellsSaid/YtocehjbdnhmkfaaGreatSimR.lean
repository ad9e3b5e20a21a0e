/- A part of the proof of a law of module cupola: SimR. It has no conditions of its own. -/
import Derived.Test.YtocehjbdnhmkfaaGreatSimW
import Derived.Tactics
import Derived.Orders
set_option linter.all false
/-! What a tree, or a value, says of the model's values, in a world. -/
namespace Go.Sim

abbrev Cells := Nat → Nat → Prop

inductive RT (w : World) (S : Cells) : T → Value → Prop
  | int (k n) : RT w S (.int k n) (.int k n)
  | bool (b) : RT w S (.bool b) (.bool b)
  | str (s) : RT w S (.str s) (.string s)
  | sl0 (A c) : RT w S (.sl []) (.slice A 0 c)
  | sl (xs : List T) (b o cap esz : Nat) (c : Nat → Nat → Value) (hn : xs.length ≤ cap)
      (hl : ∀ i (hi : i < xs.length), (xs[i]).cells.length = esz)
      (hs : ∀ i j, i < xs.length → j < esz → S b (o + i * esz + j) ∧ w.cell? ⟨b, o + i * esz + j, none⟩ = some (c i j))
      (hr : ∀ i (hi : i < xs.length) j (hj : j < (xs[i]).cells.length), RT w S (xs[i]).cells[j] (c i j)) :
      RT w S (.sl xs) (.slice (some ⟨b, o, none⟩) xs.length cap)
  | agg (cs : List T) (us : List Value) (hl : cs.length = us.length) (h : ∀ i (hi : i < cs.length) (hu : i < us.length), RT w S cs[i] us[i]) : RT w S (.agg cs) (.agg us.toArray)
  | tup (cs : List T) (us : List Value) (hl : cs.length = us.length) (h : ∀ i (hi : i < cs.length) (hu : i < us.length), RT w S cs[i] us[i]) : RT w S (.tup cs) (.tuple us.toArray)
  | fn (f) : RT w S (.fn f) (.func (.func f) #[] #[])
  | nilp : RT w S .nilp (.pointer none)
  | nilf : RT w S .nilf .nilFunc
  | nili : RT w S .nili .nilIface
  | iface (t x u) (h : RT w S x u) : RT w S (.iface t x) (.iface t u)

/-- A row of trees in memory. -/
def Arr (w : World) (S : Cells) (xs : List T) (b o esz : Nat) : Prop :=
  (∀ i (hi : i < xs.length), (xs[i]).cells.length = esz) ∧
  ∀ i (hi : i < xs.length) j (hj : j < (xs[i]).cells.length), S b (o + i * esz + j) ∧ ∃ u, w.cell? ⟨b, o + i * esz + j, none⟩ = some u ∧ RT w S (xs[i]).cells[j] u

theorem RT.of_arr {w : World} {S : Cells} {xs : List T} {b o esz cap : Nat} (h : Arr w S xs b o esz) (hn : xs.length ≤ cap) : RT w S (.sl xs) (.slice (some ⟨b, o, none⟩) xs.length cap) := by
  have : ∀ i j, ∃ u, ∀ (hi : i < xs.length) (hj : j < (xs[i]).cells.length), w.cell? ⟨b, o + i * esz + j, none⟩ = some u ∧ RT w S (xs[i]).cells[j] u := by
    intro i j
    by_cases hi : i < xs.length
    · by_cases hj : j < (xs[i]).cells.length
      · obtain ⟨_, u, h1, h2⟩ := h.2 i hi j hj
        exact ⟨u, fun _ _ => ⟨h1, h2⟩⟩
      · exact ⟨default, fun _ hj' => absurd hj' hj⟩
    · exact ⟨default, fun hi' => absurd hi' hi⟩
  refine RT.sl xs b o cap esz (fun i j => (this i j).choose) hn h.1 ?_ ?_
  · intro i j hi hj
    have hj' : j < (xs[i]).cells.length := by rw [h.1 i hi]; exact hj
    exact ⟨(h.2 i hi j hj').1, ((this i j).choose_spec hi hj').1⟩
  · intro i hi j hj
    exact ((this i j).choose_spec hi hj).2

theorem RT.arr {w : World} {S : Cells} {xs : List T} {u : Value} (h : RT w S (.sl xs) u) :
    (xs = [] ∧ ∃ A c, u = .slice A 0 c) ∨ ∃ b o cap esz, u = .slice (some ⟨b, o, none⟩) xs.length cap ∧ xs.length ≤ cap ∧ Arr w S xs b o esz := by
  cases h with
  | sl0 A c => exact .inl ⟨rfl, A, c, rfl⟩
  | sl _ b o cap esz c hn hl hs hr =>
    refine .inr ⟨b, o, cap, esz, rfl, hn, hl, fun i hi j hj => ?_⟩
    have hj' : j < esz := by rw [← hl i hi]; exact hj
    exact ⟨(hs i j hi hj').1, _, (hs i j hi hj').2, hr i hi j hj⟩

/-- What is stable stays. -/
def Stay (w : World) (S : Cells) (w' : World) (S' : Cells) : Prop := ∀ b j, S b j → S' b j ∧ w'.cell? ⟨b, j, none⟩ = w.cell? ⟨b, j, none⟩

theorem RT.mono {w w' : World} {S S' : Cells} (hs : Stay w S w' S') {x : T} {u : Value} (h : RT w S x u) : RT w' S' x u := by
  induction h with
  | int k n => exact .int k n
  | bool b => exact .bool b
  | str s => exact .str s
  | sl0 A c => exact .sl0 A c
  | sl xs b o cap esz c hn hl hst hr ih =>
    exact .sl xs b o cap esz c hn hl (fun i j hi hj => ⟨(hs _ _ (hst i j hi hj).1).1, by rw [(hs _ _ (hst i j hi hj).1).2]; exact (hst i j hi hj).2⟩) ih
  | agg cs us hl h ih => exact .agg cs us hl ih
  | tup cs us hl h ih => exact .tup cs us hl ih
  | fn f => exact .fn f
  | nilp => exact .nilp
  | nilf => exact .nilf
  | nili => exact .nili
  | iface t x u h ih => exact .iface t x u ih

theorem Arr.mono {w w' : World} {S S' : Cells} (hs : Stay w S w' S') {xs : List T} {b o esz : Nat} (h : Arr w S xs b o esz) : Arr w' S' xs b o esz :=
  ⟨h.1, fun i hi j hj => by
    obtain ⟨h1, u, h2, h3⟩ := h.2 i hi j hj
    exact ⟨(hs _ _ h1).1, u, by rw [(hs _ _ h1).2]; exact h2, h3.mono hs⟩⟩

abbrev Bl := List (Nat × Nat)

/-- A slice that leads to a row of the own heap. -/
def RefOk (H : Heap) (β : Bl) (id n : Nat) (u : Value) : Prop :=
  (∃ A c, u = .slice A n c) ∧ ∃ o : Obj, H[id]? = some o ∧ n ≤ o.el.length ∧ (o.el.length = n → ∃ b cap, β[id]? = some (b, cap) ∧ u = .slice (some ⟨b, 0, none⟩) n cap ∧ n ≤ cap)
def PtrOk (H : Heap) (β : Bl) (id n i off : Nat) (u : Value) : Prop :=
  (∃ b k, u = .pointer (some ⟨b, k, none⟩)) ∧ ∃ o : Obj, H[id]? = some o ∧ n ≤ o.el.length ∧ (o.el.length = n → ∃ b cap, β[id]? = some (b, cap) ∧ u = .pointer (some ⟨b, i * o.esz + off, none⟩))

inductive RV (w : World) (S : Cells) (H : Heap) (β : Bl) : V → Value → Prop
  | t (x u) (h : RT w S x u) : RV w S H β (.t x) u
  | ex (xs A n) (h : RT w S (.sl xs) (.slice A n n)) : RV w S H β (.ex xs) (.slice A n n)
  | ref (id n u) (h : RefOk H β id n u) : RV w S H β (.ref id n) u
  | ptr (id n i off u) (h : PtrOk H β id n i off u) : RV w S H β (.ptr id n i off) u
  | tp (xs i off b o esz) (hi : i < xs.length) (h : Arr w S xs b o esz) : RV w S H β (.tp xs i off) (.pointer (some ⟨b, o + i * esz + off, none⟩))
  | agg (cs : List V) (us : List Value) (hl : cs.length = us.length) (h : ∀ i (hi : i < cs.length) (hu : i < us.length), RV w S H β cs[i] us[i]) : RV w S H β (.agg cs) (.agg us.toArray)
  | tup (cs : List V) (us : List Value) (hl : cs.length = us.length) (h : ∀ i (hi : i < cs.length) (hu : i < us.length), RV w S H β cs[i] us[i]) : RV w S H β (.tup cs) (.tuple us.toArray)
  | fn (f) (a b : List V) (us vs : List Value) (hl : a.length = us.length) (hl' : b.length = vs.length) (h : ∀ i (hi : i < a.length) (hu : i < us.length), RV w S H β a[i] us[i])
      (h' : ∀ i (hi : i < b.length) (hu : i < vs.length), RV w S H β b[i] vs[i]) : RV w S H β (.fn f a b) (.func (.func f) us.toArray vs.toArray)
  | dead : RV w S H β .dead undef

/-- The heap grows, and what is of one length stays where it is. -/
def Grow (H : Heap) (β : Bl) (H' : Heap) (β' : Bl) : Prop :=
  ∀ (id : Nat) (o : Obj), H[id]? = some o → ∃ o' : Obj, H'[id]? = some o' ∧ o'.esz = o.esz ∧ o.el.length ≤ o'.el.length ∧ (o'.el.length = o.el.length → β'[id]? = β[id]?)

theorem Grow.refl (H : Heap) (β : Bl) : Grow H β H β := fun _ o h => ⟨o, h, rfl, Nat.le_refl _, fun _ => rfl⟩

theorem Grow.trans {H β H1 β1 H2 β2} (h : Grow H β H1 β1) (k : Grow H1 β1 H2 β2) : Grow H β H2 β2 := by
  intro id o ho
  obtain ⟨o1, h1, e1, l1, b1⟩ := h id o ho
  obtain ⟨o2, h2, e2, l2, b2⟩ := k id o1 h1
  exact ⟨o2, h2, e2.trans e1, Nat.le_trans l1 l2, fun e => (b2 (by omega)).trans (b1 (by omega))⟩

theorem RefOk.mono {H H' : Heap} {β β' : Bl} (hg : Grow H β H' β') {id n : Nat} {u : Value} (h : RefOk H β id n u) : RefOk H' β' id n u := by
  obtain ⟨hk, o, ho, hn, hb⟩ := h
  obtain ⟨o', ho', he, hl, hβ⟩ := hg id o ho
  refine ⟨hk, o', ho', by omega, fun e => ?_⟩
  have e1 : o.el.length = n := by omega
  obtain ⟨b, cap, h1, h2⟩ := hb e1
  exact ⟨b, cap, by rw [hβ (by omega)]; exact h1, h2⟩

theorem PtrOk.mono {H H' : Heap} {β β' : Bl} (hg : Grow H β H' β') {id n i off : Nat} {u : Value} (h : PtrOk H β id n i off u) : PtrOk H' β' id n i off u := by
  obtain ⟨hk, o, ho, hn, hb⟩ := h
  obtain ⟨o', ho', he, hl, hβ⟩ := hg id o ho
  refine ⟨hk, o', ho', by omega, fun e => ?_⟩
  have e1 : o.el.length = n := by omega
  obtain ⟨b, cap, h1, h2⟩ := hb e1
  exact ⟨b, cap, by rw [hβ (by omega)]; exact h1, by rw [he]; exact h2⟩

theorem RV.mono {w w' : World} {S S' : Cells} {H H' : Heap} {β β' : Bl} (hs : Stay w S w' S') (hg : Grow H β H' β') {v : V} {u : Value} (h : RV w S H β v u) : RV w' S' H' β' v u := by
  induction h with
  | t x u h => exact .t x u (h.mono hs)
  | ex xs A n h => exact .ex xs A n (h.mono hs)
  | ref id n u h => exact .ref id n u (h.mono hg)
  | ptr id n i off u h => exact .ptr id n i off u (h.mono hg)
  | tp xs i off b o esz hi h => exact .tp xs i off b o esz hi (h.mono hs)
  | agg cs us hl h ih => exact .agg cs us hl ih
  | tup cs us hl h ih => exact .tup cs us hl ih
  | fn f a b us vs hl hl' h h' ih ih' => exact .fn f a b us vs hl hl' ih ih'
  | dead => exact .dead

/-- The cells of a value. -/
theorem RV.cells {w : World} {S : Cells} {H : Heap} {β : Bl} {v : V} {u : Value} (h : RV w S H β v u) :
    v.cells.length = u.cells.size ∧ ∀ j (hj : j < v.cells.length) (hu : j < u.cells.size), RV w S H β v.cells[j] u.cells[j] := by
  cases h with
  | t x u h =>
    cases h with
    | agg cs us hl h =>
      refine ⟨by simpa [V.cells, Value.cells] using hl, fun j hj hu => ?_⟩
      simp only [V.cells, List.getElem_map, Value.cells, List.getElem_toArray]
      exact .t _ _ (h j (by simpa [V.cells] using hj) (by simpa [Value.cells] using hu))
    | int k n => exact ⟨rfl, fun j hj hu => by have : j = 0 := by simp [V.cells] at hj; omega
                                               subst this; exact .t _ _ (.int k n)⟩
    | bool b => exact ⟨rfl, fun j hj hu => by have : j = 0 := by simp [V.cells] at hj; omega
                                              subst this; exact .t _ _ (.bool b)⟩
    | str s => exact ⟨rfl, fun j hj hu => by have : j = 0 := by simp [V.cells] at hj; omega
                                             subst this; exact .t _ _ (.str s)⟩
    | sl0 A c => exact ⟨rfl, fun j hj hu => by have : j = 0 := by simp [V.cells] at hj; omega
                                               subst this; exact .t _ _ (.sl0 A c)⟩
    | sl xs b o cap esz c hn hl hs hr => exact ⟨rfl, fun j hj hu => by have : j = 0 := by simp [V.cells] at hj; omega
                                                                       subst this; exact .t _ _ (.sl xs b o cap esz c hn hl hs hr)⟩
    | tup cs us hl h => exact ⟨rfl, fun j hj hu => by have : j = 0 := by simp [V.cells] at hj; omega
                                                      subst this; exact .t _ _ (.tup cs us hl h)⟩
    | fn f => exact ⟨rfl, fun j hj hu => by have : j = 0 := by simp [V.cells] at hj; omega
                                            subst this; exact .t _ _ (.fn f)⟩
    | nilp => exact ⟨rfl, fun j hj hu => by have : j = 0 := by simp [V.cells] at hj; omega
                                            subst this; exact .t _ _ .nilp⟩
    | nilf => exact ⟨rfl, fun j hj hu => by have : j = 0 := by simp [V.cells] at hj; omega
                                            subst this; exact .t _ _ .nilf⟩
    | nili => exact ⟨rfl, fun j hj hu => by have : j = 0 := by simp [V.cells] at hj; omega
                                            subst this; exact .t _ _ .nili⟩
    | iface t x u h => exact ⟨rfl, fun j hj hu => by have : j = 0 := by simp [V.cells] at hj; omega
                                                     subst this; exact .t _ _ (.iface t x u h)⟩
  | ex xs A n h => exact ⟨rfl, fun j hj hu => by have : j = 0 := by simp [V.cells] at hj; omega
                                                 subst this; exact .ex xs A n h⟩
  | ref id n u h =>
    have h' := h
    obtain ⟨⟨A, c, rfl⟩, _⟩ := h'
    exact ⟨rfl, fun j hj hu => by have : j = 0 := by simp [V.cells] at hj; omega
                                  subst this; exact .ref _ _ _ h⟩
  | ptr id n i off u h =>
    have h' := h
    obtain ⟨⟨A, k, rfl⟩, _⟩ := h'
    exact ⟨rfl, fun j hj hu => by have : j = 0 := by simp [V.cells] at hj; omega
                                  subst this; exact .ptr _ _ _ _ _ h⟩
  | tp xs i off b o esz hi h => exact ⟨rfl, fun j hj hu => by have : j = 0 := by simp [V.cells] at hj; omega
                                                              subst this; exact .tp xs i off b o esz hi h⟩
  | agg cs us hl h =>
    refine ⟨by simpa [V.cells, Value.cells] using hl, fun j hj hu => ?_⟩
    exact h j (by simpa [V.cells] using hj) (by simpa [Value.cells] using hu)
  | tup cs us hl h => exact ⟨rfl, fun j hj hu => by have : j = 0 := by simp [V.cells] at hj; omega
                                                    subst this; exact .tup cs us hl h⟩
  | fn f a b us vs hl hl' h h' => exact ⟨rfl, fun j hj hu => by have : j = 0 := by simp [V.cells] at hj; omega
                                                                subst this; exact .fn f a b us vs hl hl' h h'⟩
  | dead => exact ⟨rfl, fun j hj hu => by have : j = 0 := by simp [V.cells] at hj; omega
                                          subst this; exact .dead⟩

end Go.Sim
