/- Separation logic over the model's worlds: fragments of the heap, assertions, and how a world keeps them. Conditions: none. -/
import Derived.WalkKit
import Derived.Deep.Draws
namespace Go.Proofs.Ytnjalbgcmgmmeaa.Sl
open Go.RowKit

/-- A part of the heap. -/
abbrev Frag := Nat → Option Obj
def Frag.le (h h' : Frag) : Prop := ∀ b o, h b = some o → h' b = some o
theorem Frag.le_refl (h : Frag) : Frag.le h h := fun _ _ e => e
theorem Frag.le_trans {a b c : Frag} (h : Frag.le a b) (h' : Frag.le b c) : Frag.le a c := fun _ _ e => h' _ _ (h _ _ e)
def fr (w : World) : Frag := fun b => w.heap[b]?

/-- An assertion: true of a part of the heap, and of every greater part. -/
structure HP where
  p : Frag → Prop
  up : ∀ h h', Frag.le h h' → p h → p h'

theorem HP.ext {A B : HP} (h : ∀ f, A.p f ↔ B.p f) : A = B := by
  cases A; cases B; congr; funext f; exact propext (h f)

def HP.star (A B : HP) : HP where
  p h := ∃ a b : Frag, (∀ k, a k = none ∨ b k = none) ∧ Frag.le a h ∧ Frag.le b h ∧ A.p a ∧ B.p b
  up := fun _ _ l ⟨a, b, d, ha, hb, x, y⟩ => ⟨a, b, d, Frag.le_trans ha l, Frag.le_trans hb l, x, y⟩
instance : Mul HP := ⟨HP.star⟩
theorem star_def (A B : HP) (h : Frag) : (A * B).p h ↔ ∃ a b : Frag, (∀ k, a k = none ∨ b k = none) ∧ Frag.le a h ∧ Frag.le b h ∧ A.p a ∧ B.p b := Iff.rfl

theorem star_comm_p {A B : HP} {h : Frag} (x : (A * B).p h) : (B * A).p h := by
  obtain ⟨a, b, d, ha, hb, p, q⟩ := x
  exact ⟨b, a, fun k => (d k).symm, hb, ha, q, p⟩
theorem HP.comm (A B : HP) : A * B = B * A := HP.ext fun _ => ⟨star_comm_p, star_comm_p⟩

theorem star_assoc_p {A B C : HP} {h : Frag} (x : (A * B * C).p h) : (A * (B * C)).p h := by
  obtain ⟨ab, c, d, hab, hc, ⟨a, b, d', ha, hb, p, q⟩, r⟩ := x
  refine ⟨a, fun k => (b k).or (c k), fun k => ?_, Frag.le_trans ha hab, ?_, p, b, c, fun k => ?_, ?_, ?_, q, r⟩
  · rcases d k with e | e
    · left
      cases h1 : a k with
      | none => rfl
      | some o => rw [ha k o h1] at e; cases e
    · rcases d' k with e' | e'
      · exact .inl e'
      · right; simp [e, e']
  · intro k o e
    simp only [Option.or_eq_some_iff] at e
    rcases e with e | ⟨_, e⟩
    · exact hab _ _ (hb _ _ e)
    · exact hc _ _ e
  · rcases d k with e | e
    · left
      cases h1 : b k with
      | none => rfl
      | some o => rw [hb k o h1] at e; cases e
    · exact .inr e
  · intro k o e; simp [e]
  · intro k o e
    have : b k = none := by
      rcases d k with e' | e'
      · cases h1 : b k with
        | none => rfl
        | some o' => rw [hb k o' h1] at e'; cases e'
      · rw [e'] at e; cases e
    simp [this, e]
theorem HP.assoc (A B C : HP) : A * B * C = A * (B * C) := HP.ext fun _ =>
  ⟨star_assoc_p, fun x => by
    have y := star_assoc_p (star_comm_p x)
    rw [HP.comm B (C * A)] at y
    have z := star_assoc_p y
    rw [HP.comm C (A * B)] at z
    exact z⟩
instance : Std.Commutative (α := HP) (· * ·) := ⟨HP.comm⟩
instance : Std.Associative (α := HP) (· * ·) := ⟨HP.assoc⟩

/-- Nothing is asked. -/
def emp : HP := ⟨fun _ => True, fun _ _ _ _ => trivial⟩
theorem star_emp (A : HP) : A * emp = A := HP.ext fun h =>
  ⟨fun ⟨a, _, _, ha, _, p, _⟩ => A.up a h ha p, fun p => ⟨h, fun _ => none, fun _ => .inr rfl, Frag.le_refl h, fun _ _ e => by (cases e), p, trivial⟩⟩
theorem emp_star (A : HP) : emp * A = A := by rw [HP.comm]; exact star_emp A
/-- A fact that speaks of no memory. -/
def pu (φ : Prop) : HP := ⟨fun _ => φ, fun _ _ _ x => x⟩
def ex {α : Type} (A : α → HP) : HP := ⟨fun h => ∃ x, (A x).p h, fun h h' l ⟨x, y⟩ => ⟨x, (A x).up h h' l y⟩⟩
/-- One block. -/
def blk (b : Nat) (o : Obj) : HP := ⟨fun h => h b = some o, fun _ _ l e => l _ _ e⟩
/-- All of a part of the heap, as it is. -/
def ro (F : Frag) : HP := ⟨fun h => Frag.le F h, fun _ _ l e => Frag.le_trans e l⟩

theorem star_pu (φ : Prop) (A : HP) (h : Frag) : (pu φ * A).p h ↔ φ ∧ A.p h :=
  ⟨fun ⟨_, b, _, _, hb, p, q⟩ => ⟨p, A.up b h hb q⟩, fun ⟨p, q⟩ => ⟨fun _ => none, h, fun _ => .inl rfl, fun _ _ e => by (cases e), Frag.le_refl h, p, q⟩⟩
theorem star_ex {α : Type} (A : α → HP) (B : HP) (h : Frag) : (ex A * B).p h ↔ ∃ x, (A x * B).p h :=
  ⟨fun ⟨a, b, d, ha, hb, ⟨x, p⟩, q⟩ => ⟨x, a, b, d, ha, hb, p, q⟩, fun ⟨x, a, b, d, ha, hb, p, q⟩ => ⟨a, b, d, ha, hb, ⟨x, p⟩, q⟩⟩
theorem star_mono {A A' B B' : HP} {h : Frag} (x : (A * B).p h) (f : ∀ h, A.p h → A'.p h) (g : ∀ h, B.p h → B'.p h) : (A' * B').p h := by
  obtain ⟨a, b, d, ha, hb, p, q⟩ := x
  exact ⟨a, b, d, ha, hb, f _ p, g _ q⟩
theorem star_left {A B : HP} {h : Frag} (x : (A * B).p h) : A.p h := by
  obtain ⟨a, _, _, ha, _, p, _⟩ := x
  exact A.up a h ha p
theorem star_right {A B : HP} {h : Frag} (x : (A * B).p h) : B.p h := star_left (star_comm_p x)

/-- What a call leaves as it is, beside the heap. -/
structure Env where
  os : Os
  tape : Nat → Question → Nat
  output : Array (Nat × ByteArray)
def env (w : World) : Env := ⟨w.os, w.tape, w.output⟩

/-- The world w is of the run G, and A holds in it. -/
def Sat (G : Env) (w : World) (A : HP) : Prop := env w = G ∧ A.p (fr w)

section
variable {G : Env} {w w' : World} {A B R : HP}
theorem Sat.ac (h : Sat G w A) (e : A = B) : Sat G w B := e ▸ h
theorem Sat.left (h : Sat G w (A * B)) : Sat G w A := ⟨h.1, star_left h.2⟩
theorem Sat.right (h : Sat G w (A * B)) : Sat G w B := ⟨h.1, star_right h.2⟩
theorem Sat.mono (h : Sat G w (A * R)) (f : ∀ x, A.p x → B.p x) : Sat G w (B * R) := ⟨h.1, star_mono h.2 f (fun _ y => y)⟩
theorem Sat.mono' (h : Sat G w A) (f : ∀ x, A.p x → B.p x) : Sat G w B := ⟨h.1, f _ h.2⟩
theorem Sat.pu {φ : Prop} (h : Sat G w (pu φ * R)) : φ ∧ Sat G w R := ⟨((star_pu φ R _).1 h.2).1, h.1, ((star_pu φ R _).1 h.2).2⟩
theorem Sat.mkPu {φ : Prop} (p : φ) (h : Sat G w R) : Sat G w (Sl.pu φ * R) := ⟨h.1, (star_pu φ R _).2 ⟨p, h.2⟩⟩
theorem Sat.ex {α : Type} {A : α → HP} (h : Sat G w (ex A * R)) : ∃ x, Sat G w (A x * R) := by
  obtain ⟨x, y⟩ := (star_ex A R _).1 h.2
  exact ⟨x, h.1, y⟩
theorem Sat.mkEx {α : Type} {A : α → HP} (x : α) (h : Sat G w (A x * R)) : Sat G w (Sl.ex A * R) := ⟨h.1, (star_ex A R _).2 ⟨x, h.2⟩⟩
theorem Sat.emp (h : Sat G w R) : Sat G w (emp * R) := by rw [emp_star]; exact h
theorem Sat.add (h : Sat G w R) : Sat G w (R * Sl.emp) := by rw [star_emp]; exact h
theorem Sat.of_heap (h : Sat G w A) (e : w'.heap = w.heap) (v : env w' = env w) : Sat G w' A := by
  refine ⟨v.trans h.1, ?_⟩
  have : fr w' = fr w := by unfold fr; rw [e]
  rw [this]; exact h.2
theorem Sat.drew (h : Sat G w A) : Sat G w.drew A := h
theorem Sat.drewN (h : Sat G w A) (n : Nat) : Sat G (w.drewN n) A := h
theorem Sat.blk {b : Nat} {o : Obj} (h : Sat G w (blk b o * R)) : w.heap[b]? = some o := star_left h.2
theorem Sat.ro {F : Frag} (h : Sat G w (ro F * R)) : Frag.le F (fr w) := star_left h.2
theorem Sat.ro_mk (w : World) : Sat (env w) w (Sl.ro (fr w)) := ⟨rfl, Frag.le_refl _⟩
theorem Sat.ne {b b' : Nat} {o o' : Obj} (h : Sat G w (Sl.blk b o * (Sl.blk b' o' * R))) : b ≠ b' := by
  obtain ⟨_, x, y, d, _, _, p, q⟩ := h
  rintro rfl
  have q' : y b = some o' := star_left q
  have p' : x b = some o := p
  rcases d b with e | e
  · rw [e] at p'; cases p'
  · rw [e] at q'; cases q'
theorem Sat.ro_ne {F : Frag} {b : Nat} {o : Obj} (h : Sat G w (Sl.ro F * (Sl.blk b o * R))) : F b = none := by
  obtain ⟨_, x, y, d, _, _, p, q⟩ := h
  have q' : y b = some o := star_left q
  cases e : F b with
  | none => rfl
  | some o' =>
    have p' : x b = some o' := p b o' e
    rcases d b with e | e
    · rw [e] at p'; cases p'
    · rw [e] at q'; cases q'

/-- The heart: part A turns into part A' while all the rest stays. S: the blocks of A. -/
theorem Sat.turn {A' : HP} (h : Sat G w (A * R)) (hv : env w' = env w)
    (f : ∀ x : Frag, Frag.le x (fr w) → A.p x → ∃ y : Frag, A'.p y ∧ Frag.le y (fr w') ∧ (∀ k, x k = none → fr w k ≠ none → y k = none) ∧ ∀ k o, x k = none → fr w k = some o → fr w' k = some o) : Sat G w' (A' * R) := by
  obtain ⟨g, a, b, d, ha, hb, p, q⟩ := h
  obtain ⟨y, py, ly, hy, hk⟩ := f a ha p
  refine ⟨hv.trans g, y, b, fun k => ?_, ly, fun k o e => ?_, py, q⟩
  · cases e : b k with
    | none => exact .inr rfl
    | some o =>
      have e1 := hb k o e
      left
      refine hy k ?_ (by rw [e1]; simp)
      rcases d k with e' | e'
      · exact e'
      · rw [e] at e'; cases e'
  · have e1 := hb k o e
    refine hk k o ?_ e1
    rcases d k with e' | e'
    · exact e'
    · rw [e] at e'; cases e'

/-- One block is written; blocks may have come. -/
theorem Sat.upd {b : Nat} {o o' : Obj} (h : Sat G w (Sl.blk b o * R)) (hv : env w' = env w) (hb : w'.heap[b]? = some o')
    (hk : ∀ k, k ≠ b → k < w.heap.size → w'.heap[k]? = w.heap[k]?) : Sat G w' (Sl.blk b o' * R) := by
  refine h.turn hv fun x lx px => ⟨fun k => if k = b then some o' else none, by simp [Sl.blk], ?_, ?_, ?_⟩
  · intro k o1 e
    dsimp only at e
    split at e
    · rename_i e'; subst e'; cases e; exact hb
    · cases e
  · intro k e _
    have : k ≠ b := by rintro rfl; have p' : x k = some o := px; rw [e] at p'; cases p'
    simp [this]
  · intro k o1 e e1
    have : k ≠ b := by rintro rfl; have p' : x k = some o := px; rw [e] at p'; cases p'
    have e2 : w.heap[k]? = some o1 := e1
    show w'.heap[k]? = some o1
    rw [hk k this (Array.getElem?_eq_some_iff.1 e2).1]; exact e2
/-- Nothing is written; blocks may have come: one of them is told. -/
theorem Sat.new {b : Nat} {o : Obj} (h : Sat G w R) (hv : env w' = env w) (hs : w.heap.size ≤ b) (hb : w'.heap[b]? = some o)
    (hk : ∀ k, k < w.heap.size → w'.heap[k]? = w.heap[k]?) : Sat G w' (Sl.blk b o * R) := by
  refine (Sat.emp h).turn hv fun x lx px => ⟨fun k => if k = b then some o else none, by simp [Sl.blk], ?_, ?_, ?_⟩
  · intro k o1 e
    dsimp only at e
    split at e
    · rename_i e'; subst e'; cases e; exact hb
    · cases e
  · intro k _ e
    have : k ≠ b := by
      rintro rfl
      refine e ?_
      show w.heap[k]? = none
      exact Array.getElem?_eq_none hs
    simp [this]
  · intro k o1 e e1
    have e2 : w.heap[k]? = some o1 := e1
    show w'.heap[k]? = some o1
    rw [hk k (Array.getElem?_eq_some_iff.1 e2).1]; exact e2
theorem Sat.grow (h : Sat G w R) (hv : env w' = env w) (hk : ∀ k, k < w.heap.size → w'.heap[k]? = w.heap[k]?) : Sat G w' R := by
  refine ⟨hv.trans h.1, R.up _ _ (fun k o e => ?_) h.2⟩
  have e2 : w.heap[k]? = some o := e
  show w'.heap[k]? = some o
  rw [hk k (Array.getElem?_eq_some_iff.1 e2).1]; exact e2
theorem Sat.below (h : Sat G w R) (hb : Below w.heap.size w w') : Sat G w' R :=
  h.grow (by unfold env; rw [hb.os, hb.tape, hb.output]) hb.block
theorem Sat.alloc (h : Sat G w R) (o : Obj) : Sat G (w.alloc o) (Sl.blk w.heap.size o * R) :=
  h.new rfl (Nat.le_refl _) (heap_alloc_new w o) (fun _ hk => heap_alloc_old w o hk)
theorem Sat.alloc' (h : Sat G w R) (o : Obj) : Sat G (w.alloc o) R := (h.alloc o).right
theorem heap_setCell_same (w : World) (b off : Nat) (v : Value) (cs : Array Value) (t : TypeId) (f : Nat × Nat) (h : w.heap[b]? = some (.cells cs t f)) :
    (w.setCell ⟨b, off, none⟩ v).heap[b]? = some (.cells (cs.setIfInBounds off v) t f) := by
  obtain ⟨hlt, hk⟩ := Array.getElem?_eq_some_iff.1 h
  show (w.heap.modify b _)[b]? = _
  rw [Array.getElem?_eq_getElem (by rw [Array.size_modify]; exact hlt), Array.getElem_modify_self, hk]
  rfl
theorem heap_setCell_other (w : World) (b off k : Nat) (v : Value) (h : k ≠ b) : (w.setCell ⟨b, off, none⟩ v).heap[k]? = w.heap[k]? := by
  exact Below.heap_setCell w ⟨b, off, none⟩ v k h
theorem Sat.set {b off : Nat} {cs : Array Value} {t : TypeId} {f : Nat × Nat} (h : Sat G w (Sl.blk b (.cells cs t f) * R)) (v : Value) :
    Sat G (w.setCell ⟨b, off, none⟩ v) (Sl.blk b (.cells (cs.setIfInBounds off v) t f) * R) :=
  h.upd rfl (heap_setCell_same w b off v cs t f h.blk) (fun k hk _ => heap_setCell_other w b off k v hk)
theorem Sat.cell {b : Nat} {cs : Array Value} {t : TypeId} {f : Nat × Nat} (h : Sat G w (Sl.blk b (.cells cs t f) * R)) (off : Nat) : w.cell? ⟨b, off, none⟩ = cs[off]? := by
  simp [World.cell?, h.blk]
theorem Sat.free {b : Nat} {cs : Array Value} {t : TypeId} (h : Sat G w (Sl.blk b (.cells cs t (0, 0)) * R)) (off : Nat) : w.frozen? ⟨b, off, none⟩ = false := by
  simp [World.frozen?, h.blk]

/-- What is owned may be kept from now on as it is. -/
def Frag.or (F x : Frag) : Frag := fun k => (F k).or (x k)
theorem Sat.freeze {F : Frag} (h : Sat G w (Sl.ro F * (A * R))) : ∃ F', Frag.le F F' ∧ A.p F' ∧ Sat G w (Sl.ro F' * R) := by
  have h' : Sat G w (Sl.ro F * A * R) := by rw [HP.assoc]; exact h
  obtain ⟨g, y, r, d, hy, hr, ⟨f, a, d', hf, ha, pf, pa⟩, q⟩ := h'
  refine ⟨y, Frag.le_trans pf hf, A.up _ _ ha pa, g, y, r, d, hy, hr, Frag.le_refl y, q⟩
end

/-! ### reading -/
def fcell (h : Frag) (a : Addr) : Option Value :=
  match h a.block with
  | some (.cells c _ _) => if a.spot.isSome then none else c[a.off]?
  | _ => none
theorem fcell_fr (w : World) (a : Addr) : fcell (fr w) a = w.cell? a := rfl
theorem fcell_le {h h' : Frag} (l : Frag.le h h') {a : Addr} {v : Value} (e : fcell h a = some v) : fcell h' a = some v := by
  unfold fcell at *
  cases x : h a.block with
  | none => rw [x] at e; cases e
  | some o => rw [l _ _ x]; rw [x] at e; exact e
theorem add_lit (g j : Nat) : (⟨g, 0, none⟩ : Addr).add j = ⟨g, j, none⟩ := by unfold Addr.add; split <;> simp_all
/-- v is a slice of n elements of 'size' cells each; their cells read xs. Whose they are is not said. -/
def rd (size : Nat) (v : Value) (n : Nat) (xs : List Value) : HP where
  p h := xs.length = n * size ∧ ∃ A c, v = .slice A n c ∧ n ≤ c ∧ ∀ j u, xs[j]? = some u → ∃ a, A = some a ∧ fcell h (a.add j) = some u
  up := by
    rintro h h' l ⟨e, A, c, x, y, z⟩
    exact ⟨e, A, c, x, y, fun j u hj => let ⟨a, ha, hc⟩ := z j u hj; ⟨a, ha, fcell_le l hc⟩⟩
theorem rd_nil (size : Nat) (h : Frag) : (rd size (.slice none 0 0) 0 []).p h := ⟨by simp, none, 0, rfl, Nat.le_refl _, fun j u e => by simp at e⟩

/-! ### rows of cells that are owned -/
/-- v is a slice of n elements (type e, each of 'size' cells) over a row of its own; the elements' cells: xs. -/
def own (e : TypeId) (size : Nat) (v : Value) (n : Nat) (xs : List Value) : HP where
  p h := xs.length = n * size ∧ ((v = .slice none 0 0 ∧ n = 0) ∨
    ∃ g cap cur, v = .slice (some ⟨g, 0, none⟩) n cap ∧ h g = some (.cells cur e (0, 0)) ∧ n ≤ cap ∧ cap ≤ maxLen ∧ cap * size ≤ cur.size ∧ cur.toList.take (n * size) = xs)
  up := by
    rintro h h' l ⟨a, b⟩
    refine ⟨a, ?_⟩
    rcases b with b | ⟨g, cap, cur, x, y, z⟩
    · exact .inl b
    · exact .inr ⟨g, cap, cur, x, l _ _ y, z⟩
section
variable {G : Env} {w w' : World} {R : HP} {e : TypeId} {size n : Nat} {v : Value} {xs : List Value}
theorem own_rd {h : Frag} (x : (own e size v n xs).p h) : (rd size v n xs).p h := by
  obtain ⟨a, b⟩ := x
  refine ⟨a, ?_⟩
  rcases b with ⟨rfl, rfl⟩ | ⟨g, cap, cur, rfl, y, h1, h2, h3, h4⟩
  · refine ⟨none, 0, rfl, Nat.le_refl _, fun j u e => ?_⟩
    have : xs = [] := List.eq_nil_of_length_eq_zero (by simpa using a)
    subst this; simp at e
  · refine ⟨_, _, rfl, h1, fun j u e => ⟨_, rfl, ?_⟩⟩
    rw [add_lit]
    rw [← h4, List.getElem?_take] at e
    split at e
    · simpa [fcell, y] using e
    · cases e
theorem Sat.own_rd (h : Sat G w (own e size v n xs * R)) : (rd size v n xs).p (fr w) := Sl.own_rd (star_left h.2)
theorem own_max {h : Frag} (x : (own e size v n xs).p h) : n ≤ maxLen := by
  rcases x.2 with ⟨rfl, rfl⟩ | ⟨g, cap, cur, rfl, y, h1, h2, h3, h4⟩
  · exact Nat.zero_le _
  · omega
theorem own_slice {h : Frag} (x : (own e size v n xs).p h) : ∃ A c, v = .slice A n c ∧ n ≤ c ∧ c ≤ maxLen := by
  rcases x.2 with ⟨rfl, rfl⟩ | ⟨g, cap, cur, rfl, y, h1, h2, h3, h4⟩
  · exact ⟨_, _, rfl, Nat.le_refl _, Nat.zero_le _⟩
  · exact ⟨_, _, rfl, h1, h2⟩
theorem Sat.own_nil (h : Sat G w R) (e size : Nat) : Sat G w (own e size (.slice none 0 0) 0 [] * R) :=
  (Sat.emp h).mono (fun _ _ => ⟨by simp, .inl ⟨rfl, rfl⟩⟩)
theorem Sat.own_len (h : Sat G w (own e size v n xs * R)) : xs.length = n * size := (star_left h.2).1
/-- The row is written over, at the same place or at a new one; all else stays. -/
theorem Sat.own_to {v' : Value} {n' : Nat} {xs' : List Value} (h : Sat G w (own e size v n xs * R)) (hv : env w' = env w)
    (hl : xs'.length = n' * size) (g cap : Nat) (cur : Array Value) (hv' : v' = .slice (some ⟨g, 0, none⟩) n' cap) (hg : w'.heap[g]? = some (.cells cur e (0, 0)))
    (hn : n' ≤ cap) (hc : cap ≤ maxLen) (hs : cap * size ≤ cur.size) (ht : cur.toList.take (n' * size) = xs')
    (hwhere : v.ownBlock = some g ∨ w.heap.size ≤ g) (hk : ∀ k, k < w.heap.size → v.ownBlock ≠ some k → w'.heap[k]? = w.heap[k]?) : Sat G w' (own e size v' n' xs' * R) := by
  subst hv'
  refine h.turn hv fun x lx px => ⟨fun k => if k = g then some (.cells cur e (0, 0)) else none, ⟨hl, .inr ⟨g, cap, cur, rfl, by simp, hn, hc, hs, ht⟩⟩, ?_, ?_, ?_⟩
  · intro k o1 e
    dsimp only at e
    split at e
    · rename_i e'; subst e'; cases e; exact hg
    · cases e
  · intro k e1 e2
    have : k ≠ g := by
      rintro rfl
      rcases hwhere with hw | hw
      · rcases px.2 with ⟨rfl, _⟩ | ⟨g', cap', cur', rfl, y, _⟩
        · simp [Value.ownBlock] at hw
        · simp [Value.ownBlock] at hw; subst hw; rw [e1] at y; cases y
      · refine e2 ?_
        show w.heap[k]? = none
        exact Array.getElem?_eq_none hw
    simp [this]
  · intro k o1 e1 e2
    have e3 : w.heap[k]? = some o1 := e2
    show w'.heap[k]? = some o1
    rw [hk k (Array.getElem?_eq_some_iff.1 e3).1 ?_]; · exact e3
    intro hw
    rcases px.2 with ⟨rfl, _⟩ | ⟨g', cap', cur', rfl, y, _⟩
    · simp [Value.ownBlock] at hw
    · simp [Value.ownBlock] at hw; subst hw; rw [e1] at y; cases y
theorem env_setRow (w : World) (g : Nat) (cs : Array Value) : env (w.setRow g cs) = env w := rfl
theorem env_alloc (w : World) (o : Obj) : env (w.drew.alloc o) = env w := rfl

/-- append(s, news...), s a row of its own, the news wherever they lie. -/
theorem run_append_sl {P : Program} (t ty : TypeId) (i : TypeInfo) (z : Value) (bytes : Nat) (ht : P.underlying t = some (.slice e)) (hi : P.info? e = some i) (hz : i.zero = some z)
    (hsize : i.size = size) (hby : i.bytes = bytes) (hzs : z.cells.size = size) (h : Sat G w (own e size v n xs * R))
    (x : Value) (m : Nat) (news : List Value) (hx : (rd size x m news).p (fr w)) (h1 : ∀ u ∈ news, u.oneCell' = true)
    (hbytes : (n + m) * bytes ≤ 140737488355328) (h63 : n + m ≤ 140737488355328) (hsz : 0 < size) :
    ∃ v' w', (Builtin.append_ #[t, t] ty #[v, x]).run P w = .ok v' w' ∧ Sat G w' (own e size v' (n + m) (xs ++ news) * R) ∧ w.heap.size ≤ w'.heap.size := by
  subst hsize
  subst hby
  obtain ⟨hl, A, c, rfl, hmc, hnw⟩ := hx
  by_cases hm0 : m = 0
  · subst hm0
    have hn : news = [] := List.eq_nil_of_length_eq_zero (by simpa using hl)
    subst hn
    rcases (star_left h.2).2 with ⟨rfl, rfl⟩ | ⟨g, cap, cur, rfl, hg, hnc, hcm, hcs, htake⟩
    · refine ⟨.slice none 0 0, w, ?_, by simpa using h, Nat.le_refl _⟩
      cases A <;> simp [Builtin.append_, run_underlying ht, sizeOf, typeInfo, hi, Builtin.lenOf, Builtin.firstCells, loadCells, loadCellsFrom]
    · refine ⟨_, w, ?_, by simpa using h, Nat.le_refl _⟩
      cases A <;> simp [Builtin.append_, run_underlying ht, sizeOf, typeInfo, hi, Builtin.lenOf, Builtin.firstCells, loadCells, loadCellsFrom, hnc, storeCells]
  obtain ⟨a, rfl⟩ : ∃ a, A = some a := by
    have : news ≠ [] := by intro e; rw [e] at hl; have := Nat.mul_pos (Nat.pos_of_ne_zero hm0) hsz; simp only [List.length_nil] at hl; omega
    cases news with
    | nil => exact absurd rfl this
    | cons u l => obtain ⟨a, ha, _⟩ := hnw 0 u rfl; exact ⟨a, ha⟩
  have hnews : ∀ j u, news[j]? = some u → w.cell? (a.add j) = some u := fun j u e => by
    obtain ⟨a', ea, hc⟩ := hnw j u e
    cases ea; exact hc
  clear hnw
  have hmx : n + m ≤ maxLen := by unfold maxLen; omega
  have hxl := h.own_len
  have hlen : (xs ++ news).length = (n + m) * i.size := by rw [List.length_append, hxl, hl, Nat.add_mul]
  have grown : ∀ (old : Nat), old < n + m → 
      Sat G (w.drew.alloc (.cells (xs.toArray ++ news.toArray ++ Builtin.zeroCells z.cells (grownCap w (n + m) old e - (n + m))) e))
        (own e i.size (.slice (some ⟨w.heap.size, 0, none⟩) (n + m) (grownCap w (n + m) old e)) (n + m) (xs ++ news) * R) := by
    intro old ho
    refine h.own_to (env_alloc w _) hlen w.heap.size _ _ rfl (heap_alloc_new w.drew _) (grownCap_ge w (n + m) old e) (grownCap_le_maxLen w (n + m) old e hmx) (Nat.le_of_eq ?_) ?_ (.inr (Nat.le_refl _)) (fun k hk _ => heap_alloc_old w.drew _ hk)
    · have hge := grownCap_ge w (n + m) old e
      simp only [Array.size_append, List.size_toArray, size_zeroCells, hzs, hxl, hl, ← Nat.add_mul]
      congr 1
      omega
    · simp only [Array.toList_append, List.append_assoc]
      rw [← List.append_assoc, ← hlen]
      exact List.take_left
  rcases (star_left h.2).2 with ⟨rfl, rfl⟩ | ⟨g, cap, cur, rfl, hg, hnc, hcm, hcs, htake⟩
  · have hx : xs = [] := List.eq_nil_of_length_eq_zero (by simpa using hxl)
    subst hx
    · have hr := run_append_nil (P := P) w t ty e i z ht hi hz a m c news hl hnews (by omega) (by omega) (by have hb := hbytes; simp only [Nat.zero_add] at hb; omega)
      have hgr := grown 0 (by omega)
      simp only [Nat.zero_add, List.nil_append, Array.empty_append] at hgr ⊢
      exact ⟨_, _, hr, hgr, by simp⟩
  · have hg' : w.heap[g]? = some (.cells cur e (0, 0)) := hg
    by_cases hroom : n + m ≤ cap
    · have hfit : n * i.size + news.length ≤ cur.size := by rw [hl, ← Nat.add_mul]; exact Nat.le_trans (Nat.mul_le_mul_right _ hroom) hcs
      have hr := run_append_room (P := P) w t ty e i ht hi g n cap cur hg' a m c news hl hnews h1 hroom hfit
      refine ⟨_, _, hr, h.own_to (env_setRow w g _) hlen g cap _ rfl (setRow_heap w g cur _ e _ hg') hroom hcm ?_ ?_ (.inl rfl) (fun k _ hk => setRow_other w g k _ (fun e => hk (by simp [Value.ownBlock, e]))), by simp⟩
      · simp only [List.size_toArray, List.length_append, List.length_take, List.length_drop, Array.length_toList]
        omega
      · rw [htake, ← hlen]
        exact List.take_left
    · have holds : ∀ j u, xs[j]? = some u → w.cell? ((⟨g, 0, none⟩ : Addr).add j) = some u := fun j u e => by obtain ⟨_, A, c', ev, _, hz⟩ := h.own_rd; obtain ⟨a', ea, hc⟩ := hz j u e; cases ev; cases ea; exact hc
      have hr := run_append_grow (P := P) w t ty e i z ht hi hz ⟨g, 0, none⟩ n cap xs hxl holds a m c news hl hnews (by omega) (by omega) (growslice_fits (by omega) hbytes)
      exact ⟨_, _, hr, grown cap (by omega), by simp⟩
theorem wpList_append_sl {P : Program} {ops : Array Oper} {rest : List Oper} {o : Oper} {ac : Act} {Q : Exit → Act → World → Prop} (hgd : o.guard = none) (s0 x0 : Operand) (t : TypeId)
    (ho : o.op = .call { callee := .builtin .append, args := #[s0, x0], argTypes := #[t, t] })
    (i : TypeInfo) (z : Value) (bytes : Nat) (ht : P.underlying t = some (.slice e)) (hi : P.info? e = some i) (hz : i.zero = some z)
    (hsize : i.size = size) (hby : i.bytes = bytes) (hzs : z.cells.size = size) (hs : ac.eval s0 = v) (h : Sat G w (own e size v n xs * R))
    (x : Value) (m : Nat) (news : List Value) (hxe : ac.eval x0 = x) (hx : (rd size x m news).p (fr w)) (h1 : ∀ u ∈ news, u.oneCell' = true)
    (hk : ∀ v' w', Sat G w' (own e size v' (n + m) (xs ++ news) * R) → wpList P ops Q rest (ac.put o.dst v') w')
    (hbytes : (n + m) * bytes ≤ 140737488355328) (h63 : n + m ≤ 140737488355328) (hsz : 0 < size) : wpList P ops Q (o :: rest) ac w :=
  wpList_plain hgd fun _ hK => by
    obtain ⟨v', w', hr, h2, _⟩ := run_append_sl (P := P) t o.type i z bytes ht hi hz hsize hby hzs h x m news hx h1 hbytes h63 hsz
    unfold Oper.wp execOp
    simp only [ho, resolve, invoke, builtin, Sem.run_bind, Sem.run_pure, Result.andThen_ok, List.map_toArray, List.map_cons, List.map_nil, hs, hxe, hr]
    exact hK _ _ (hk v' w' h2)
theorem step_append_sl {P : Program} {ops : Array Oper} {o : Oper} {ac : Act} {K : Act → World → Prop} {Q : Exit → Act → World → Prop} {E : Prop} (hgd : o.guard = none) (s0 x0 : Operand) (t : TypeId)
    (ho : o.op = .call { callee := .builtin .append, args := #[s0, x0], argTypes := #[t, t] })
    (i : TypeInfo) (z : Value) (bytes : Nat) (ht : P.underlying t = some (.slice e)) (hi : P.info? e = some i) (hz : i.zero = some z)
    (hsize : i.size = size) (hby : i.bytes = bytes) (hzs : z.cells.size = size) (hs : ac.eval s0 = v) (h : Sat G w (own e size v n xs * R))
    (x : Value) (m : Nat) (news : List Value) (hxe : ac.eval x0 = x) (hx : (rd size x m news).p (fr w)) (h1 : ∀ u ∈ news, u.oneCell' = true)
    (hbytes : (n + m) * bytes ≤ 140737488355328) (h63 : n + m ≤ 140737488355328) (hsz : 0 < size)
    (hk : ∀ v' w', Sat G w' (own e size v' (n + m) (xs ++ news) * R) → w.heap.size ≤ w'.heap.size → K (ac.put o.dst v') w') :
    if Region.wanted o (yielded ops ac.tmps) = true then Oper.wp P o ac w K Q else E := by
  have hw : Region.wanted o (yielded ops ac.tmps) = true := by simp [Region.wanted, hgd]
  rw [if_pos hw]
  obtain ⟨v', w', hr, h2, h3⟩ := run_append_sl (P := P) t o.type i z bytes ht hi hz hsize hby hzs h x m news hx h1 hbytes h63 hsz
  unfold Oper.wp execOp
  simp only [ho, resolve, invoke, builtin, Sem.run_bind, Sem.run_pure, Result.andThen_ok, List.map_toArray, List.map_cons, List.map_nil, hs, hxe, hr]
  exact hk v' w' h2 h3
end

/-- A call returns a value of which Φ holds. -/
def Ret (G : Env) (Φ : Value → HP) (e : Ending) (w : World) : Prop := ∃ v, e = .returned v ∧ Sat G w (Φ v)
theorem Ret.mk {G : Env} {Φ : Value → HP} {w : World} (v : Value) (h : Sat G w (Φ v)) : Ret G Φ (.returned v) w := ⟨v, rfl, h⟩
end Go.Proofs.Ytnjalbgcmgmmeaa.Sl
