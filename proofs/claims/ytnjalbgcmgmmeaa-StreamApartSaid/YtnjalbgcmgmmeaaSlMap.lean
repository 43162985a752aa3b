/- Lists of assertions, and maps with keys that are strings: what a look-up, a store and a delete do. Conditions: none. -/
import Derived.Test.YtnjalbgcmgmmeaaSl
import Derived.MapKept
import Derived.WalkSpells
import Derived.WalkLawsBesides
namespace Go.Proofs.Ytnjalbgcmgmmeaa.Sl
open Go.RowKit Go.MapKept

theorem fr_alloc_le (w : World) (o : Obj) : Frag.le (fr w) (fr (w.alloc o)) := fun k x e => by
  have e' : w.heap[k]? = some x := e
  show (w.alloc o).heap[k]? = some x
  rw [heap_alloc_old w o (Array.getElem?_eq_some_iff.1 e').1]; exact e'

def listHP {α β : Type} (c : α → β → HP) : List α → List β → HP
  | [], [] => emp
  | a :: l, b :: m => c a b * listHP c l m
  | _, _ => pu False
section
variable {α β : Type} {c : α → β → HP}
theorem listHP_len : ∀ {l : List α} {m : List β} {h : Frag}, (listHP c l m).p h → l.length = m.length
  | [], [], _, _ => rfl
  | _ :: _, [], _, x => x.elim
  | [], _ :: _, _, x => x.elim
  | _ :: l, _ :: m, _, x => by simp [listHP_len (star_right x)]
theorem listHP_at : ∀ (l : List α) (m : List β) (j : Nat) (a : α) (b : β), l[j]? = some a → m[j]? = some b →
    ∃ B : HP, listHP c l m = c a b * B ∧ ∀ a' b', listHP c (l.set j a') (m.set j b') = c a' b' * B
  | [], _, j, _, _, h, _ => by simp at h
  | _ :: _, [], j, _, _, _, h => by simp at h
  | x :: l, y :: m, 0, a, b, h, h' => by
    simp at h h'; subst h; subst h'
    exact ⟨listHP c l m, rfl, fun _ _ => rfl⟩
  | x :: l, y :: m, j + 1, a, b, h, h' => by
    simp at h h'
    obtain ⟨B, e, f⟩ := listHP_at l m j a b h h'
    refine ⟨c x y * B, ?_, fun a' b' => ?_⟩
    · show c x y * listHP c l m = _
      rw [e]; ac_rfl
    · show c x y * listHP c (l.set j a') (m.set j b') = _
      rw [f]; ac_rfl
theorem listHP_snoc : ∀ (l : List α) (m : List β) (a : α) (b : β), l.length = m.length → listHP c (l ++ [a]) (m ++ [b]) = listHP c l m * c a b
  | [], [], a, b, _ => by show c a b * emp = emp * c a b; ac_rfl
  | _ :: _, [], _, _, h => by simp at h
  | [], _ :: _, _, _, h => by simp at h
  | x :: l, y :: m, a, b, h => by
    show c x y * listHP c (l ++ [a]) (m ++ [b]) = c x y * listHP c l m * c a b
    rw [listHP_snoc l m a b (by simpa using h)]; ac_rfl
theorem listHP_erase : ∀ (l : List α) (m : List β) (j : Nat) (a : α) (b : β), l[j]? = some a → m[j]? = some b → listHP c l m = c a b * listHP c (l.eraseIdx j) (m.eraseIdx j)
  | [], _, j, _, _, h, _ => by simp at h
  | _ :: _, [], j, _, _, _, h => by simp at h
  | x :: l, y :: m, 0, a, b, h, h' => by
    simp at h h'; subst h; subst h'; rfl
  | x :: l, y :: m, j + 1, a, b, h, h' => by
    simp at h h'
    show c x y * listHP c l m = c a b * (c x y * listHP c (l.eraseIdx j) (m.eraseIdx j))
    rw [listHP_erase l m j a b h h']; ac_rfl
theorem listHP_imp {c' : α → β → HP} : ∀ {l : List α} {m : List β} {h : Frag}, (∀ a b h, a ∈ l → (c a b).p h → (c' a b).p h) → (listHP c l m).p h → (listHP c' l m).p h
  | [], [], _, _, _ => trivial
  | _ :: _, [], _, _, x => x.elim
  | [], _ :: _, _, _, x => x.elim
  | a :: l, b :: m, _, f, x => star_mono x (fun h y => f a b h (by simp) y) (fun h y => listHP_imp (fun a b h i => f a b h (by simp [i])) y)
theorem listHP_get {l : List α} {m : List β} {h : Frag} (x : (listHP c l m).p h) {j : Nat} {a : α} (ha : l[j]? = some a) : ∃ b, m[j]? = some b ∧ (c a b).p h := by
  have hl := listHP_len x
  have hj : j < m.length := by rw [← hl]; exact (List.getElem?_eq_some_iff.1 ha).1
  refine ⟨m[j], List.getElem?_eq_getElem hj, ?_⟩
  obtain ⟨B, e, _⟩ := listHP_at (c := c) l m j a m[j] ha (List.getElem?_eq_getElem hj)
  rw [e] at x
  exact star_left x
end

/-! ### maps by strings -/
theorem put_heap (w : World) (r : Nat) (o : Obj) : ({ w with heap := w.heap.setIfInBounds r o } : World).heap = w.heap.setIfInBounds r o := rfl
section
variable {P : Program} {w : World} {t k el : TypeId} (ht : P.underlying t = some (.map k el)) (hk : P.underlying k = some .string) {r : Nat} {es : Array MapEntry} {clock : Nat}
  (hb : w.heap[r]? = some (.map es clock)) (hs : ∀ x ∈ es.toList, IsKey .string x.key) (s : ByteArray)
theorem isKey_s (s : ByteArray) : IsKey .string (.string s) := by simp [IsKey]
include hs in
theorem findNow_yes (h2 : (es.toList.map (·.key)).Nodup) {j : Nat} {e : MapEntry} (he : es.toList[j]? = some e) (hkey : e.key = .string s) : Instr.findNow .string (.string s) es.toList 0 = some (some (j, e.val)) := by
  rcases findNow_spec (isKey_s s) es.toList 0 hs with ⟨_, h⟩ | ⟨j', e', h, he', hk'⟩
  · exact absurd hkey (h e (List.mem_of_getElem? he))
  · have hj : j' = j := by
      have a : (es.toList.map (·.key))[j']? = some (.string s) := by simp [he', hk']
      have b : (es.toList.map (·.key))[j]? = some (.string s) := by simp [he, hkey]
      exact (List.getElem?_inj (by have := (List.getElem?_eq_some_iff.1 a).1; exact this) h2).1 (a.trans b.symm)
    subst hj
    rw [he'] at he; cases he
    simpa using h
include hs in
theorem findNow_no (hne : ∀ x ∈ es.toList, x.key ≠ .string s) : Instr.findNow .string (.string s) es.toList 0 = some none := by
  rcases findNow_spec (isKey_s s) es.toList 0 hs with ⟨h, _⟩ | ⟨j', e', _, he', hk'⟩
  · exact h
  · exact absurd hk' (hne e' (List.mem_of_getElem? he'))
include ht hk hb hs
theorem run_lookup_some (h2 : (es.toList.map (·.key)).Nodup) {j : Nat} {e : MapEntry} (he : es.toList[j]? = some e) (hkey : e.key = .string s) :
    (Instr.lookup t (.map (some r)) (.string s) false).run P w = .ok e.val w := by
  simp [Instr.lookup, run_underlying ht, MapKept.run_getObj_map hb, run_checkKey hk (isKey_s s), run_findKey hk (findNow_yes hs s h2 he hkey), Result.andThen]
theorem run_lookup_none (z : Value) (hz : ∀ w : World, (zeroValue el).run P w = .ok z w) (hne : ∀ x ∈ es.toList, x.key ≠ .string s) :
    (Instr.lookup t (.map (some r)) (.string s) false).run P w = .ok z w := by
  simp [Instr.lookup, run_underlying ht, MapKept.run_getObj_map hb, run_checkKey hk (isKey_s s), run_findKey hk (findNow_no hs s hne), Result.andThen, hz]
theorem run_update_some (v : Value) (h2 : (es.toList.map (·.key)).Nodup) {j : Nat} {e : MapEntry} (he : es.toList[j]? = some e) (hkey : e.key = .string s) :
    (Instr.mapUpdate t (.map (some r)) (.string s) v).run P w = .ok () { w with heap := w.heap.setIfInBounds r (.map (es.modify j fun e => { e with key := .string s, val := v }) clock) } := by
  have hj : es[j]? = some e := by simpa using he
  simp [Instr.mapUpdate, run_underlying ht, MapKept.run_getObj_map hb, run_checkKey hk (isKey_s s), run_findKey hk (findNow_yes hs s h2 he hkey), hj, hkey, run_keyThatStays (isKey_s s), MapKept.run_setObj_map _ hb, Result.andThen]
theorem run_update_none (v : Value) (hne : ∀ x ∈ es.toList, x.key ≠ .string s) :
    (Instr.mapUpdate t (.map (some r)) (.string s) v).run P w = .ok () { w with heap := w.heap.setIfInBounds r (.map (es.push { key := .string s, val := v, born := clock }) (clock + 1)) } := by
  simp [Instr.mapUpdate, run_underlying ht, MapKept.run_getObj_map hb, run_checkKey hk (isKey_s s), run_findKey hk (findNow_no hs s hne), MapKept.run_setObj_map _ hb, Result.andThen]
end
theorem Sat.put {G : Env} {w : World} {R : HP} {r : Nat} {o : Obj} (h : Sat G w (Sl.blk r o * R)) (o' : Obj) : Sat G { w with heap := w.heap.setIfInBounds r o' } (Sl.blk r o' * R) :=
  h.upd rfl (heap_set h.blk).1 (fun k hk _ => (heap_set (o' := o') h.blk).2 k hk)
theorem rd_new (w : World) (cs : Array Value) (t : TypeId) (size n : Nat) (h : cs.size = n * size) : (rd size (.slice (some ⟨w.heap.size, 0, none⟩) n n) n cs.toList).p (fr (w.alloc (.cells cs t))) := by
  refine ⟨by simpa using h, _, _, rfl, Nat.le_refl _, fun j u e => ⟨_, rfl, ?_⟩⟩
  rw [add_lit]
  have : fr (w.alloc (.cells cs t)) w.heap.size = some (.cells cs t (0, 0)) := _root_.Go.heap_alloc_new w _
  simpa [fcell, this] using e
theorem toList_modify {es : Array MapEntry} {j : Nat} {e : MapEntry} (f : MapEntry → MapEntry) (he : es.toList[j]? = some e) : (es.modify j f).toList = es.toList.set j (f e) := by
  apply List.ext_getElem?
  intro i
  have he' : es[j]? = some e := by simpa using he
  simp only [Array.getElem?_toList, Array.getElem?_modify, List.getElem?_set]
  by_cases hij : j = i
  · subst hij
    have hlt := (Array.getElem?_eq_some_iff.1 he').1
    have e2 : es[j] = e := by rw [Array.getElem?_eq_getElem hlt] at he'; exact Option.some.inj he'
    simp [he', hlt, e2]
  · simp [hij]
theorem flatten_get {α : Type} (z : Nat) : ∀ (css : List (List α)) (_ : ∀ cs ∈ css, cs.length = z) (k i : Nat) (cs : List α), css[k]? = some cs → i < z → css.flatten[k * z + i]? = cs[i]?
  | [], _, k, _, _, h, _ => by simp at h
  | c :: css, hl, 0, i, cs, h, hi => by
    simp at h; subst h
    have : c.length = z := hl c (by simp)
    simp [List.getElem?_append, this, hi]
  | c :: css, hl, k + 1, i, cs, h, hi => by
    have hc : c.length = z := hl c (by simp)
    have ih := flatten_get z css (fun x hx => hl x (by simp [hx])) k i cs (by simpa using h) hi
    rw [List.flatten_cons, List.getElem?_append_right (by rw [hc, Nat.succ_mul]; omega)]
    rw [← ih]; congr 1; rw [hc, Nat.succ_mul]; omega
/-- A row that is owned, opened. -/
theorem own_open {h : Frag} {e : TypeId} {size n : Nat} {v : Value} {xs : List Value} (x : (own e size v n xs).p h) (hn : 0 < n) :
    ∃ (g cap : Nat) (cur : Array Value), v = .slice (some ⟨g, 0, none⟩) n cap ∧ h g = some (.cells cur e (0, 0)) ∧ n ≤ cap ∧ cap ≤ maxLen ∧ ∀ (j : Nat) (u : Value), xs[j]? = some u → cur[j]? = some u := by
  rcases x.2 with ⟨_, rfl⟩ | ⟨g, cap, cur, rfl, y, h1, h2, h3, h4⟩
  · omega
  · refine ⟨g, cap, cur, rfl, y, h1, h2, fun j u e => ?_⟩
    rw [← h4, List.getElem?_take] at e
    split at e
    · simpa using e
    · cases e
theorem rd_blk {w : World} {b : Nat} {cs : Array Value} {t : TypeId} {f : Nat × Nat} (h : w.heap[b]? = some (.cells cs t f)) (size n : Nat) (hs : cs.size = n * size) : (rd size (.slice (some ⟨b, 0, none⟩) n n) n cs.toList).p (fr w) := by
  refine ⟨by simpa using hs, _, _, rfl, Nat.le_refl _, fun j u e => ⟨_, rfl, ?_⟩⟩
  rw [add_lit]
  have : fr w b = some (.cells cs t f) := h
  simpa [fcell, this] using e
theorem size_setCell (w : World) (a : Addr) (v : Value) : (w.setCell a v).heap.size = w.heap.size := by
  show (w.heap.modify a.block _).size = _
  exact Array.size_modify
theorem rd_set_new (w : World) (a : Addr) (v : Value) (cs : Array Value) (t : TypeId) (size n : Nat) (h : cs.size = n * size) : (rd size (.slice (some ⟨w.heap.size, 0, none⟩) n n) n cs.toList).p (fr ((w.setCell a v).alloc (.cells cs t))) := by
  refine rd_blk (t := t) (f := (0, 0)) ?_ size n h
  have := _root_.Go.heap_alloc_new (w.setCell a v) (.cells cs t)
  rwa [size_setCell] at this
/-- A row that a call has made, by the kit's own word. -/
theorem Sat.of_ownsRow {G : Env} {w w1 : World} {R : HP} {e : TypeId} {size n : Nat} {v : Value} {xs : List Value} (h : Sat G w R) (hb : Below w.heap.size w w1) (ho : w1.ownsRow w.heap.size e size v n xs) : Sat G w1 (own e size v n xs * R) := by
  have hv : env w1 = env w := by unfold env; rw [hb.os, hb.tape, hb.output]
  rcases ho.2 with ⟨rfl, rfl⟩ | ⟨g, cap, cur, rfl, hg, hgg, h1, h2, h3, h4⟩
  · have : xs = [] := List.eq_nil_of_length_eq_zero (by simpa using ho.1)
    subst this
    exact (h.below hb).own_nil e size
  · refine (h.new hv hg hgg hb.block).mono fun x hx => ⟨ho.1, .inr ⟨g, cap, cur, rfl, hx, h1, h2, Nat.le_of_eq h3.symm, h4⟩⟩
end Go.Proofs.Ytnjalbgcmgmmeaa.Sl
