/- The sorted names: strictly rising, each of a stream that holds events. Conditions: none. -/
import Derived.Test.YtnjalbgcmgmmeaaNames
import Derived.Test.YtnjalbgcmgmmeaaInv
import Derived.Sort.Walk0
namespace Go.Proofs.Ytnjalbgcmgmmeaa
open Go.RowKit Sl

theorem keys_perm (M : Model) : (sortedKeys M).Perm (keysOf M) := List.mergeSort_perm _ _
theorem keys_rise {n : Nat} {M : Model} (h : Inv n M) : (sortedKeys M).Pairwise (· < ·) := by
  have tr : ∀ a b c : List UInt8, leB a b = true → leB b c = true → leB a c = true := fun a b c h1 h2 => by simp only [leB, decide_eq_true_eq] at *; exact List.le_trans h1 h2
  have to : ∀ a b : List UInt8, (leB a b || leB b a) = true := fun a b => by simp only [leB, Bool.or_eq_true, decide_eq_true_eq]; exact List.le_total a b
  have h1 : (sortedKeys M).Pairwise (fun a b => leB a b = true) := List.pairwise_mergeSort tr to (keysOf M)
  have h2 : (keysOf M).Nodup := by
    have : keysOf M = (M.map (·.1)).map (fun b : ByteArray => b.data.toList) := by simp [keysOf]
    rw [this]
    refine List.Pairwise.map _ (fun a b hab e => hab ?_) h.nodup
    cases a; cases b
    simp at e
    rw [e]
  have h3 : (sortedKeys M).Nodup := (keys_perm M).symm.nodup h2
  refine (h1.and h3).imp fun ⟨a, b⟩ => ?_
  simp only [leB, decide_eq_true_eq] at a
  exact Std.lt_of_le_of_ne a b
theorem rise_at {n : Nat} {M : Model} (h : Inv n M) {k : Nat} (hk : k + 1 < (sortedKeys M).length) : Op.bytesLess (sortedKeys M)[k] (sortedKeys M)[k + 1] = true := by
  rw [_root_.Go.Proofs.bytesLess_eq]
  exact decide_eq_true (List.pairwise_iff_getElem.1 (keys_rise h) k (k + 1) (by omega) hk (by omega))
theorem key_mem {M : Model} {x : List UInt8} : x ∈ sortedKeys M ↔ (⟨x.toArray⟩ : ByteArray) ∈ M.map (·.1) := by
  rw [(keys_perm M).mem_iff]
  unfold keysOf
  constructor
  · intro h
    obtain ⟨p, hp, rfl⟩ := List.mem_map.1 h
    exact List.mem_map.2 ⟨p, hp, by simp⟩
  · intro h
    obtain ⟨p, hp, e⟩ := List.mem_map.1 h
    exact List.mem_map.2 ⟨p, hp, by rw [e]⟩
theorem key_next {n : Nat} {M : Model} (h : Inv n M) {k : Nat} (hk : k < (sortedKeys M).length) : 1 ≤ (getM M ⟨(sortedKeys M)[k].toArray⟩).length :=
  (mem_keys h _).1 (key_mem.1 (List.getElem_mem hk))
theorem found_iff {n : Nat} {M : Model} (h : Inv n M) (s : ByteArray) : decide (s.data.toList ∈ sortedKeys M) = decide (0 < (getM M s).length) := by
  refine decide_eq_decide.2 ?_
  rw [key_mem, ← mem_keys h s]
theorem names_read {G : Env} {w : World} {R : HP} {A : Option Addr} {c : Nat} {ss : List (List UInt8)} (h : Sat G w (namesHP (.slice A ss.length c) ss * R)) (k : Nat) (hk : k < ss.length) :
    ∃ g, A = some ⟨g, 0, none⟩ ∧ ∀ (j : Nat) (hj : j < ss.length), w.cell? ⟨g, j, none⟩ = some (.string ⟨(ss[j]).toArray⟩) := by
  obtain ⟨g, cap', cur, e, hg, _, _, hc⟩ := own_open (star_left h.2) (by omega)
  cases e
  refine ⟨g, rfl, fun j hj => ?_⟩
  have hg' : w.heap[g]? = some (.cells cur 9 (0, 0)) := hg
  have := hc j (.string ⟨(ss[j]).toArray⟩) (by simp [hj, encStr])
  simpa [World.cell?, hg'] using this
end Go.Proofs.Ytnjalbgcmgmmeaa
