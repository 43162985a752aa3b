/- The model of the streams: what stays true of it. Plain Lean. Conditions: none. -/
import Derived.Test.YtnjalbgcmgmmeaaEv
namespace Go.Proofs.Ytnjalbgcmgmmeaa
open Go.RowKit Sl

def numbered (l : List Ev) : Prop := ∀ (i : Nat) (h : i < l.length), (l[i]).num = i + 1
structure RowOk (n : Nat) (p : ByteArray × List Ev) : Prop where
  ne : p.2 ≠ []
  size : p.1.size ≤ 256
  len : p.2.length ≤ n
  data : ∀ e ∈ p.2, e.data.length ≤ 140737488351232
  num : numbered p.2
  bytes : ∀ e ∈ p.2, bytesV e.data
structure Inv (n : Nat) (M : Model) : Prop where
  nodup : (M.map (·.1)).Nodup
  rows : ∀ p ∈ M, RowOk n p
  len : M.length ≤ n
theorem Inv.nil : Inv 0 [] := ⟨by simp, by simp, by simp⟩
theorem RowOk.up {n : Nat} {p : ByteArray × List Ev} (h : RowOk n p) : RowOk (n + 1) p := ⟨h.ne, h.size, Nat.le_succ_of_le h.len, h.data, h.num, h.bytes⟩
theorem Inv.up {n : Nat} {M : Model} (h : Inv n M) : Inv (n + 1) M := ⟨h.nodup, fun p hp => (h.rows p hp).up, Nat.le_succ_of_le h.len⟩
theorem numbered_snoc {l : List Ev} {e : Ev} (h : numbered l) (he : e.num = l.length + 1) : numbered (l ++ [e]) := by
  intro i hi
  by_cases hl : i < l.length
  · rw [List.getElem_append_left hl]; exact h i hl
  · have : i = l.length := by simp at hi; omega
    subst this
    simp [he]
theorem getM_ok {n : Nat} {M : Model} (h : Inv n M) (s : ByteArray) : (getM M s).length ≤ n ∧ (∀ e ∈ getM M s, e.data.length ≤ 140737488351232 ∧ bytesV e.data) ∧ numbered (getM M s) := by
  cases hj : atM M s with
  | none =>
    rw [(atM_none hj).2]
    exact ⟨Nat.zero_le _, by simp, fun i hi => by simp at hi⟩
  | some j =>
    obtain ⟨l, hl, hg⟩ := atM_some hj
    rw [hg]
    have r := h.rows _ (List.mem_of_getElem? hl)
    exact ⟨r.len, fun e he => ⟨r.data e he, r.bytes e he⟩, r.num⟩
theorem putM_ok {n : Nat} {M : Model} (h : Inv n M) {s : ByteArray} {e : Ev} (hs : s.size ≤ 256) (hn : e.num = (getM M s).length + 1) (hd : e.data.length ≤ 140737488351232) (hb : bytesV e.data) : Inv (n + 1) (putM M s e) := by
  obtain ⟨g1, g2, g3⟩ := getM_ok h s
  unfold putM
  cases hj : atM M s with
  | none =>
    have hne := (atM_none hj).1
    have hg := (atM_none hj).2
    simp only
    rw [hg] at hn
    refine ⟨?_, ?_, by simp; exact h.len⟩
    · rw [List.map_append, List.nodup_append]
      refine ⟨h.nodup, by simp, ?_⟩
      intro a ha b hb
      obtain ⟨p, hp, rfl⟩ := List.mem_map.1 ha
      simp at hb
      subst hb
      exact hne p hp
    · intro p hp
      rcases List.mem_append.1 hp with hp | hp
      · exact (h.rows p hp).up
      · simp at hp
        subst hp
        refine ⟨by simp, hs, by simp, by simpa using hd, ?_, by simpa using hb⟩
        intro i hi
        have : i = 0 := by simp at hi; omega
        subst this
        simpa using hn
  | some j =>
    obtain ⟨l, hl, hg⟩ := atM_some hj
    simp only
    have hlt := (List.getElem?_eq_some_iff.1 hl).1
    have hx : M[j] = (s, l) := (List.getElem?_eq_some_iff.1 hl).2
    refine ⟨?_, ?_, by simp; exact Nat.le_succ_of_le h.len⟩
    · have : (M.set j (s, getM M s ++ [e])).map (·.1) = M.map (·.1) := by
        apply List.ext_getElem?
        intro i
        simp only [List.getElem?_map, List.getElem?_set]
        by_cases hi : j = i
        · subst hi; simp [hlt, hx]
        · simp [hi]
      rw [this]; exact h.nodup
    · intro p hp
      rcases List.mem_or_eq_of_mem_set hp with hp | rfl
      · exact (h.rows p hp).up
      · have r := h.rows _ (List.mem_of_getElem? hl)
        refine ⟨by simp, hs, by simp; exact g1, ?_, numbered_snoc g3 hn, ?_⟩
        · intro e' he'
          rcases List.mem_append.1 he' with he' | he'
          · exact (g2 e' he').1
          · simp at he'; subst he'; exact hd
        · intro e' he'
          rcases List.mem_append.1 he' with he' | he'
          · exact (g2 e' he').2
          · simp at he'; subst he'; exact hb
theorem addM_ok {n : Nat} {M : Model} (h : Inv n M) (s : ByteArray) (x a2 a3 : Int) (xs : List Int) (hd : xs.length ≤ 140737488351232) (hb : bytesV xs) : Inv (n + 1) (addM M s x a2 a3 xs) := by
  unfold addM
  split
  · rename_i hc
    refine putM_ok h ?_ hc.2 hd hb
    have := hc.1
    simp [NameB] at this
    omega
  · exact h.up
theorem mem_keys {n : Nat} {M : Model} (h : Inv n M) (s : ByteArray) : s ∈ M.map (·.1) ↔ 0 < (getM M s).length := by
  constructor
  · intro hs
    cases hj : atM M s with
    | none =>
      obtain ⟨p, hp, rfl⟩ := List.mem_map.1 hs
      exact absurd rfl ((atM_none hj).1 p hp)
    | some j =>
      obtain ⟨l, hl, hg⟩ := atM_some hj
      rw [hg]
      exact List.length_pos_iff.2 (h.rows _ (List.mem_of_getElem? hl)).ne
  · intro hs
    cases hj : atM M s with
    | none => rw [(atM_none hj).2] at hs; simp at hs
    | some j =>
      obtain ⟨l, hl, hg⟩ := atM_some hj
      exact List.mem_map.2 ⟨_, List.mem_of_getElem? hl, rfl⟩
end Go.Proofs.Ytnjalbgcmgmmeaa
