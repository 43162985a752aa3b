/- StreamApart over the model's worlds. Conditions: none. -/
import Derived.Test.YtnjalbgcmgmmeaaWalkN
namespace Go.Proofs.Ytnjalbgcmgmmeaa
open Go.RowKit Sl

theorem find_set_same {M : Model} {s : ByteArray} {j : Nat} (l : List Ev) (h : atM M s = some j) : atM (M.set j (s, l)) s = some j := by
  obtain ⟨hlt, hp, hmin⟩ := List.findIdx?_eq_some_iff_getElem.1 h
  refine List.findIdx?_eq_some_iff_getElem.2 ⟨by simpa using hlt, by simp, fun i hi => ?_⟩
  have := hmin i hi
  rw [List.getElem_set_ne (by omega)]
  exact this
theorem getM_put_same (M : Model) (s : ByteArray) (e : Ev) : getM (putM M s e) s = getM M s ++ [e] := by
  cases hj : atM M s with
  | some j =>
    obtain ⟨l, hl, hg⟩ := atM_some hj
    have h2 := find_set_same (getM M s ++ [e]) hj
    have hlt := (List.getElem?_eq_some_iff.1 hl).1
    have e1 : putM M s e = M.set j (s, getM M s ++ [e]) := by simp only [putM, hj]
    rw [e1]
    generalize getM M s ++ [e] = l0 at *
    simp only [getM, h2]
    simp [hlt]
  | none =>
    have hne := (atM_none hj).1
    have e1 : putM M s e = M ++ [(s, [e])] := by simp only [putM, hj]
    rw [e1]
    have : atM (M ++ [(s, [e])]) s = some M.length := by
      refine List.findIdx?_eq_some_iff_getElem.2 ⟨by simp, by simp, fun i hi => ?_⟩
      rw [List.getElem_append_left hi]
      simpa using hne _ (List.getElem_mem hi)
    rw [(atM_none hj).2]
    simp only [getM, this]
    simp
theorem getM_put_other (M : Model) {s t : ByteArray} (e : Ev) (hst : t ≠ s) : getM (putM M s e) t = getM M t := by
  have key : ∀ (A B : Model), A.length = B.length → (∀ (i : Nat) (h : i < A.length) (h' : i < B.length), (A[i]).1 = (B[i]).1 ∧ ((A[i]).1 = t → A[i] = B[i])) → getM A t = getM B t := by
    intro A B hl hab
    have hidx : atM A t = atM B t := by
      unfold atM
      cases hA : A.findIdx? (fun p => decide (p.1 = t)) with
      | some j =>
        obtain ⟨hlt, hp, hm⟩ := List.findIdx?_eq_some_iff_getElem.1 hA
        symm
        refine List.findIdx?_eq_some_iff_getElem.2 ⟨by omega, ?_, fun i hi => ?_⟩
        · rw [← (hab j hlt (by omega)).1]; exact hp
        · rw [← (hab i (by omega) (by omega)).1]; exact hm i hi
      | none =>
        symm
        rw [List.findIdx?_eq_none_iff] at hA ⊢
        intro p hp
        obtain ⟨i, hi, rfl⟩ := List.getElem_of_mem hp
        rw [← (hab i (by omega) hi).1]
        exact hA _ (List.getElem_mem _)
    cases hj : atM A t with
    | some j =>
      obtain ⟨hlt, hp, _⟩ := List.findIdx?_eq_some_iff_getElem.1 hj
      have hB : atM B t = some j := hidx ▸ hj
      have e1 := (hab j hlt (by omega)).2 (by simpa using hp)
      have hltB : j < B.length := by omega
      simp [getM, hj, hB, List.getElem?_eq_getElem hlt, List.getElem?_eq_getElem hltB, e1]
    | none =>
      have hB : atM B t = none := hidx ▸ hj
      simp [getM, hj, hB]
  unfold putM
  cases hj : atM M s with
  | some j =>
    obtain ⟨l, hl, hg⟩ := atM_some hj
    simp only
    refine key _ _ (by simp) (fun i h h' => ?_)
    by_cases hi : j = i
    · subst hi
      have hx : M[j] = (s, l) := (List.getElem?_eq_some_iff.1 hl).2
      simp [hx]
      intro e; exact absurd e.symm hst
    · rw [List.getElem_set_ne hi]; simp
  | none =>
    simp only
    have hne := (atM_none hj).1
    unfold getM atM
    rw [List.findIdx?_append]
    cases hA : M.findIdx? (fun p => decide (p.1 = t)) with
    | some k =>
      obtain ⟨hlt, _⟩ := List.findIdx?_eq_some_iff_getElem.1 hA
      simp [List.getElem?_append_left hlt]
    | none => simp [List.findIdx?_cons, Ne.symm hst]
def numL (l : List Ev) (s : ByteArray) (x : Int) : Int := if NameB s = true then (if x = l.length + 1 then x else 0) else 0
def errL (l : List Ev) (s : ByteArray) (x : Int) : Int := if NameB s = true then (if x = l.length + 1 then 0 else 240) else 241
def addL (l : List Ev) (s : ByteArray) (x a2 a3 : Int) (xs : List Int) : List Ev := if NameB s = true ∧ x = l.length + 1 then l ++ [⟨x, a2, a3, xs⟩] else l
theorem getM_add_same (M : Model) (s : ByteArray) (x a2 a3 : Int) (xs : List Int) : getM (addM M s x a2 a3 xs) s = addL (getM M s) s x a2 a3 xs := by
  unfold addM addL
  split
  · exact getM_put_same _ _ _
  · rfl
theorem getM_add_other (M : Model) {s t : ByteArray} (x a2 a3 : Int) (xs : List Int) (h : t ≠ s) : getM (addM M s x a2 a3 xs) t = getM M t := by
  unfold addM
  split
  · exact getM_put_other _ _ h
  · rfl
theorem add_refused (M : Model) (s : ByteArray) (x a2 a3 : Int) (xs : List Int) (h : x ≠ (getM M s).length + 1) : addM M s x a2 a3 xs = M := by
  unfold addM
  rw [if_neg (fun hc => h hc.2)]
theorem Next_L {G : Env} {w : World} {R : HP} {b : Nat} {M : Model} {L : List Ev} (s : ByteArray) (h : Sat G w (strHP b M * R)) (hL : getM M s = L) :
    Calls Try.prog 15 #[.pointer (some ⟨b, 0, none⟩), .string s] w fun e w' => e = .returned (.int .u64 (L.length + 1)) ∧ w' = w := by
  subst hL; exact Next_spec s h
theorem Add_L {G : Env} {w : World} {R : HP} (b : Nat) {M : Model} {L : List Ev} (s : ByteArray) (x a1 a2 a3 : Int) (dv : Value) (xs : List Int) (h : Sat G w (strHP b M * R)) (hL : getM M s = L)
    (hd : (rd 1 dv xs.length (bc xs)).p (fr w)) (hb : bytesV xs) (hsz : xs.length ≤ 140737488351232) (hlen : L.length ≤ 1048576) :
    Calls Try.prog 13 #[.pointer (some ⟨b, 0, none⟩), .string s, .int .u64 x, .agg #[.int .u64 a1, .int .i64 a2, .int .i64 a3, dv]] w fun e w' =>
      e = .returned (.tuple #[.int .u64 (numL L s x), .int .i64 (errL L s x)]) ∧ Sat G w' (strHP b (addM M s x a2 a3 xs) * R) := by
  subst hL
  exact Add_calls b s x a1 a2 a3 dv xs h hd hb (by omega) hlen
end Go.Proofs.Ytnjalbgcmgmmeaa
