/- A list picked out of a stream's events: what it holds. Conditions: none. -/
import Derived.Test.YtnjalbgcmgmmeaaAwake
import Derived.Test.YtnjalbgcmgmmeaaInv
namespace Go.Proofs.Ytnjalbgcmgmmeaa
open Go.RowKit Sl

/-- What is read of event k, by its own cells. -/
theorem ev_read2 {G : Env} {w : World} {R : HP} {A : Option Addr} {cap : Nat} {l : List Ev} {css : List (List Value)} (h : Sat G w (own 34 4 (.slice A l.length cap) l.length css.flatten * (listHP evHP l css * R))) (k : Nat) (hk : k < l.length) :
    ∃ g B d, A = some ⟨g, 0, none⟩ ∧ css[k]? = some (evCells l[k] (.slice B (l[k]).data.length d)) ∧ w.cell? ⟨g, k * 4, none⟩ = some (.int .u64 (l[k]).num) ∧ w.cell? ⟨g, k * 4 + 1, none⟩ = some (.int .i64 (l[k]).typ) ∧ w.cell? ⟨g, k * 4 + 2, none⟩ = some (.int .i64 (l[k]).ver) ∧
      w.cell? ⟨g, k * 4 + 3, none⟩ = some (.slice B (l[k]).data.length d) := by
  obtain ⟨g, cap', cur, e, _⟩ := own_open (star_left h.2) (by omega)
  cases e
  have hL := h.right.left.2
  obtain ⟨cs, hcs, dv, hE⟩ := listHP_get hL (List.getElem?_eq_getElem hk)
  obtain ⟨⟨rfl, hb⟩, hd⟩ := (star_pu _ _ _).1 hE
  obtain ⟨B, d, rfl, hc, _⟩ := own_slice hd
  obtain ⟨_, A', c', ev, _, hz⟩ := h.own_rd
  cases ev
  have hf := flatten_get 4 css (evs_lens hL) k
  have rd1 : ∀ i u, i < 4 → (evCells l[k] (.slice B (l[k]).data.length d))[i]? = some u → w.cell? ⟨g, k * 4 + i, none⟩ = some u := by
    intro i u hi hu
    obtain ⟨a, ea, hcell⟩ := hz (k * 4 + i) u (by rw [hf i _ hcs hi]; exact hu)
    cases ea
    rw [add_lit] at hcell
    exact hcell
  exact ⟨g, B, d, rfl, hcs, rd1 0 _ (by omega) rfl, rd1 1 _ (by omega) rfl, rd1 2 _ (by omega) rfl, rd1 3 _ (by omega) rfl⟩
def sel (Z : List (Ev × List Value)) (t : Int) (k : Nat) : List (Ev × List Value) := (Z.take k).filter (fun p => decide (p.1.typ = t))
def selCells (Z : List (Ev × List Value)) (t : Int) (k : Nat) : List Value := ((sel Z t k).map (·.2)).flatten
def SelRel (G : Env) (Y : HP) (Z : List (Ev × List Value)) (t : Int) (n : Nat) (v i : Value) (w : World) : Prop :=
  ∃ k : Nat, i = .int .i64 k ∧ k ≤ n ∧ Sat G w (own 34 4 v (sel Z t k).length (selCells Z t k) * Y)
theorem sel_zero (Z : List (Ev × List Value)) (t : Int) : sel Z t 0 = [] := by simp [sel]
theorem sel_yes {Z : List (Ev × List Value)} {t : Int} {k : Nat} {e : Ev} {cs : List Value} (h : Z[k]? = some (e, cs)) (ht : e.typ = t) : sel Z t (k + 1) = sel Z t k ++ [(e, cs)] := by
  obtain ⟨hk, hx⟩ := List.getElem?_eq_some_iff.1 h
  unfold sel
  rw [List.take_succ_eq_append_getElem hk, List.filter_append, hx, List.filter_cons_of_pos (by simpa using ht)]
  rfl
theorem sel_no {Z : List (Ev × List Value)} {t : Int} {k : Nat} {e : Ev} {cs : List Value} (h : Z[k]? = some (e, cs)) (ht : ¬ e.typ = t) : sel Z t (k + 1) = sel Z t k := by
  obtain ⟨hk, hx⟩ := List.getElem?_eq_some_iff.1 h
  unfold sel
  rw [List.take_succ_eq_append_getElem hk, List.filter_append, hx, List.filter_cons_of_neg (by simpa using ht), List.filter_nil, List.append_nil]
theorem sel_le (Z : List (Ev × List Value)) (t : Int) (k : Nat) : (sel Z t k).length ≤ Z.length := by
  unfold sel
  have := List.length_filter_le (fun p : Ev × List Value => decide (p.1.typ = t)) (Z.take k)
  have := List.length_take_le k Z
  have : (Z.take k).length ≤ Z.length := by simp; omega
  omega
theorem sel_all {l : List Ev} {css : List (List Value)} (hl : l.length = css.length) {t : Int} (ht : ¬ t < 0) : (sel (l.zip css) t l.length).map (·.1) = l.filter (want t) := by
  unfold sel
  have h1 : (l.zip css).take l.length = l.zip css := List.take_of_length_le (by simp; omega)
  rw [h1]
  have h2 : ((l.zip css).map (·.1)).filter (want t) = ((l.zip css).filter (fun p => decide (p.1.typ = t))).map (·.1) := by
    rw [List.filter_map]
    congr 1
    refine List.filter_congr fun p _ => ?_
    simp [want, ht]
  rw [← h2]
  congr 1
  have := List.unzip_zip (l₁ := l) (l₂ := css) hl
  have := congrArg Prod.fst this
  simpa [List.unzip_eq_map] using this
theorem rdEvs_mk {v : Value} {ps : List (Ev × List Value)} {h : Frag} (x : (own 34 4 v ps.length (ps.map (·.2)).flatten).p h) (hp : ∀ p ∈ ps, (evK p.1 p.2).p h) : (rdEvs v (ps.map (·.1))).p h := by
  have hlen : ∀ cs ∈ ps.map (·.2), cs.length = 4 := by
    intro cs hcs
    obtain ⟨p, hpp, rfl⟩ := List.mem_map.1 hcs
    obtain ⟨dv, e, _⟩ := hp p hpp
    rw [e]; rfl
  obtain ⟨hl, A, c, rfl, hc, hz⟩ := own_rd x
  obtain ⟨A', c', e', _, hcm⟩ := own_slice x
  cases e'
  refine ⟨A, c, by simp, by simpa using hc, hcm, fun hpos => ?_⟩
  have hpos' : 0 < ps.length := by simpa using hpos
  have h0 : (ps.map (·.2)).flatten ≠ [] := by
    intro e
    rw [e] at hl; simp only [List.length_nil] at hl; omega
  obtain ⟨a, rfl⟩ : ∃ a, A = some a := by
    cases hf : (ps.map (·.2)).flatten with
    | nil => exact absurd hf h0
    | cons u r => obtain ⟨a, ha, _⟩ := hz 0 u (by rw [hf]; rfl); exact ⟨a, ha⟩
  refine ⟨a, rfl, fun j e he => ?_⟩
  rw [List.getElem?_map, Option.map_eq_some_iff] at he
  obtain ⟨p, hpj, rfl⟩ := he
  have hcs : (ps.map (·.2))[j]? = some p.2 := by simp [hpj]
  have hk := hp p (List.mem_of_getElem? hpj)
  have hl4 := hlen p.2 (List.mem_map.2 ⟨p, List.mem_of_getElem? hpj, rfl⟩)
  refine ⟨p.2, hl4, hk, fun i u hu => ?_⟩
  have hi : i < 4 := by
    have := (List.getElem?_eq_some_iff.1 hu).1
    omega
  obtain ⟨a', ea, hcell⟩ := hz (j * 4 + i) u (by rw [flatten_get 4 _ hlen j i _ hcs hi]; exact hu)
  cases ea
  exact hcell
theorem sel_evK {l : List Ev} {css : List (List Value)} {h : Frag} (x : (listHP evHP l css).p h) (t : Int) (k : Nat) : ∀ p ∈ sel (l.zip css) t k, (evK p.1 p.2).p h := by
  intro p hp
  have h1 : p ∈ l.zip css := List.mem_of_mem_take (List.mem_filter.1 hp).1
  obtain ⟨i, hi, rfl⟩ := List.getElem_of_mem h1
  have hi1 : i < l.length := by simp at hi; omega
  obtain ⟨cs, hcs, dv, hE⟩ := listHP_get x (List.getElem?_eq_getElem hi1)
  obtain ⟨⟨rfl, hb⟩, hd⟩ := (star_pu _ _ _).1 hE
  have e : css[i]'(by simp at hi; omega) = evCells l[i] dv := (List.getElem?_eq_some_iff.1 hcs).2
  simp only [List.getElem_zip, e]
  exact ⟨dv, rfl, own_rd hd, hb⟩
theorem own_empty {G : Env} {w : World} {R : HP} (h : Sat G w R) (e size : Nat) : Sat G (w.alloc (.cells #[] e)) (own e size (.slice (some ⟨w.heap.size, 0, none⟩) 0 0) 0 [] * R) :=
  (h.alloc (.cells #[] e)).mono (fun x hx => ⟨by simp, .inr ⟨_, _, _, rfl, hx, by simp, by simp, by simp, by simp⟩⟩)
end Go.Proofs.Ytnjalbgcmgmmeaa
