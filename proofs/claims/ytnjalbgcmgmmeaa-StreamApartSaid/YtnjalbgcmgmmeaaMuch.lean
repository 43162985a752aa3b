/- 'much' and 'awake' of the laws of layer 24 over the model's worlds. Conditions: none. -/
import Derived.Test.YtnjalbgcmgmmeaaArgs
namespace Go.Proofs.Ytnjalbgcmgmmeaa
open Go.RowKit Sl

def total : List OpM → Nat
  | [] => 0
  | o :: l => o.name.size + o.e.data.length + total l
theorem total_snoc (l : List OpM) (o : OpM) : total (l ++ [o]) = total l + (o.name.size + o.e.data.length) := by
  induction l with
  | nil => simp [total]
  | cons a l ih => simp [total, ih]; omega
theorem total_take (l : List OpM) (k : Nat) : total (l.take k) ≤ total l := by
  induction l generalizing k with
  | nil => simp
  | cons a l ih =>
    cases k with
    | zero => simp [total]
    | succ k => simp [total]; exact ih k
theorem op_read {w : World} {v : Value} {ops : List OpM} (x : (rdK opK 9 v ops).p (fr w)) (k : Nat) (hk : k < ops.length) :
    ∃ ad c A c1, v = .slice (some ad) ops.length c ∧ ops.length ≤ c ∧ (ops[k]).e.data.length ≤ c1 ∧ w.cell? (ad.add (k * 9)) = some (.int .i64 (ops[k]).kind) ∧
      w.cell? ⟨(ad.add (k * 9)).block, (ad.add (k * 9)).off + 1, none⟩ = some (.int .i64 (ops[k]).who) ∧
      w.cell? ⟨(ad.add (k * 9)).block, (ad.add (k * 9)).off + 2, none⟩ = some (.string (ops[k]).name) ∧
      w.cell? ⟨(ad.add (k * 9)).block, (ad.add (k * 9)).off + 3, none⟩ = some (.int .u64 (ops[k]).more) ∧
      w.cell? ⟨(ad.add (k * 9)).block, (ad.add (k * 9)).off + 4, none⟩ = some (.int .u64 (ops[k]).e.num) ∧
      w.cell? ⟨(ad.add (k * 9)).block, (ad.add (k * 9)).off + 5, none⟩ = some (.int .i64 (ops[k]).e.typ) ∧
      w.cell? ⟨(ad.add (k * 9)).block, (ad.add (k * 9)).off + 6, none⟩ = some (.int .i64 (ops[k]).e.ver) ∧
      w.cell? ⟨(ad.add (k * 9)).block, (ad.add (k * 9)).off + 7, none⟩ = some (.slice A (ops[k]).e.data.length c1) ∧
      w.cell? ⟨(ad.add (k * 9)).block, (ad.add (k * 9)).off + 8, none⟩ = some (.int .i64 (ops[k]).typ) ∧
      (rd 1 (.slice A (ops[k]).e.data.length c1) (ops[k]).e.data.length (bc (ops[k]).e.data)).p (fr w) ∧ (ops[k]).ok := by
  obtain ⟨ad, c, cs, e, hc, _, ⟨dv, rfl, hd, hb⟩, hcell⟩ := rdK_at x k hk
  obtain ⟨_, A, c1, rfl, hc1, _⟩ := id hd
  have q0 := hcell 0 _ rfl
  rw [fcell_fr, Nat.add_zero] at q0
  have hadd : ∀ i, (ad.add (k * 9)).add (i + 1) = ⟨(ad.add (k * 9)).block, (ad.add (k * 9)).off + (i + 1), none⟩ := fun i => rfl
  have q : ∀ i u, (opCells ops[k] (.slice A (ops[k]).e.data.length c1))[i + 1]? = some u → w.cell? ⟨(ad.add (k * 9)).block, (ad.add (k * 9)).off + (i + 1), none⟩ = some u := by
    intro i u hu
    have := hcell (i + 1) u hu
    rw [fcell_fr, ← Addr.add_add, hadd] at this
    exact this
  exact ⟨ad, c, A, c1, e, hc, hc1, q0, q 0 _ rfl, q 1 _ rfl, q 2 _ rfl, q 3 _ rfl, q 4 _ rfl, q 5 _ rfl, q 6 _ rfl, q 7 _ rfl, hd, hb⟩
def MRel (w : World) (ops : List OpM) (t i : Value) (wr : World) : Prop :=
  ∃ k n : Nat, i = .int .i64 k ∧ t = .int .i64 (total (ops.take k)) ∧ k ≤ ops.length ∧ wr = w.drewN n ∧ total (ops.take k) ≤ 281474977758720
theorem much_next {w : World} {ops : List OpM} {k n m : Nat} (hk : k < ops.length) (hb : total (ops.take k) ≤ 1048576) (ho : (ops[k]).ok) :
    MRel w ops (.int .i64 (total (ops.take k) + ((ops[k]).name.size : Int) + ((ops[k]).e.data.length : Int))) (.int .i64 (k + 1)) (w.drewN (n + m)) := by
  have e : total (ops.take (k + 1)) = total (ops.take k) + ((ops[k]).name.size + (ops[k]).e.data.length) := by
    rw [List.take_succ_eq_append_getElem hk, total_snoc]
  refine ⟨k + 1, n + m, by simp, ?_, hk, rfl, ?_⟩
  · rw [e]; congr 1; omega
  · rw [e]; have := ho.dlen; have := ho.nlen; omega
def MuchPost (w : World) (ops : List OpM) (e : Ending) (w' : World) : Prop := ∃ r, e = .returned (.bool r) ∧ (r = false → ops.length ≤ 2000 ∧ total ops ≤ 1048576) ∧ ∃ n, w' = w.drewN n
set_option maxHeartbeats 2000000 in
theorem much_spec {w : World} (v : Value) (ops : List OpM) (h : (rdK opK 9 v ops).p (fr w)) (hl : ops.length * 96 ≤ 140737488351232) :
    Calls Try.prog 8 #[v] w (MuchPost w ops) := by
  have HR := Lib.hid (op_read h)
  obtain ⟨A0, c0, rfl, hc0, _, _⟩ := h
  go_enter Try.func8, Try.ntmps8
  go_wp2
  go_loopw [3, 4] (fun t i wr => MRel w ops t i wr) (fun _ i _ => ops.length - (intOf i).toNat)
  case atStart => exact ⟨0, 0, rfl, by simp [total], Nat.zero_le _, rfl, by simp [total]⟩
  case round =>
    obtain ⟨k, n, rfl, rfl, hk, rfl, hb⟩ := hrel
    by_cases hlt : k < ops.length
    · by_cases ht : total (ops.take k) ≤ 1048576
      · by_cases h2 : k ≤ 2000
        · obtain ⟨ad, _, B, d, e0, _, p4, p0, p1, p2, p3, p4, p5, p6, p7, p8, pr, pb⟩ := HR.out k hlt
          cases e0
          have hn1 := pb.nlen
          have hn2 := pb.dlen
          have PB := Lib.hid pb
          clear pr pb p0 p1 p3 p4 p5 p6 p8
          have ht' : ((total (ops.take k) : Nat) : Int) ≤ 1048576 := by omega
          have h2' : (k : Int) ≤ 2000 := by omega
          go_wp2_with fail
          go_quiet (fail)
          go_wp2
          exact ⟨much_next hlt ht PB.out, by simp [intOf]; omega⟩
        · have ht' : ((total (ops.take k) : Nat) : Int) ≤ 1048576 := by omega
          have h2' : ¬ (k : Int) ≤ 2000 := by omega
          have h3 : (2000 : Int) < (ops.length : Int) := by omega
          go_wp2
          go_ret
          exact ⟨true, rfl, by simp, n, rfl⟩
      · have ht' : ¬ ((total (ops.take k) : Nat) : Int) ≤ 1048576 := by omega
        have h4 : (1048576 : Int) < ((total (ops.take k) : Nat) : Int) := by omega
        by_cases h3 : (2000 : Int) < (ops.length : Int)
        · go_wp2
          go_ret
          exact ⟨true, rfl, by simp, n, rfl⟩
        · go_wp2
          go_ret
          exact ⟨true, rfl, by simp, n, rfl⟩
    · have hkk : k = ops.length := by omega
      have hkk' : total (ops.take k) = total ops := by rw [hkk, List.take_length]
      have HK := Lib.hid hkk'
      have hkk2 : ops.length ≤ k := by omega
      clear hkk hkk'
      by_cases h3 : (2000 : Int) < (ops.length : Int)
      · go_wp2
        go_ret
        exact ⟨true, rfl, by simp, n, rfl⟩
      · by_cases h4 : (1048576 : Int) < ((total (ops.take k) : Nat) : Int)
        · go_wp2
          go_ret
          exact ⟨true, rfl, by simp, n, rfl⟩
        · go_wp2
          go_ret
          refine ⟨false, rfl, fun _ => ⟨by omega, ?_⟩, n, rfl⟩
          have := HK.out
          omega
end Go.Proofs.Ytnjalbgcmgmmeaa
