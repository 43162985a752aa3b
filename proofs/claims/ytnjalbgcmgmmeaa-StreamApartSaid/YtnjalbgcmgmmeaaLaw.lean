/- The law's small helpers over the model's worlds. Conditions: none. -/
import Derived.Test.YtnjalbgcmgmmeaaEv
import Derived.Test.YtnjalbgcmgmmeaaNames
import Derived.Test.YtnjalbgcmgmmeaaSlRead
import Derived.Deep.QuietTactic
import Derived.BigQuiet
namespace Go.Proofs.Ytnjalbgcmgmmeaa
open Go.RowKit Sl Go.MapKept

def strs (l : List ByteArray) : List Value := l.map Value.string
def TRel (w : World) (ss tt : List ByteArray) (i : Value) (wr : World) : Prop := ∃ k n : Nat, i = .int .i64 k ∧ k ≤ ss.length ∧ wr = w.drewN n ∧ ss.take k = tt.take k
theorem texts_ne {ss tt : List ByteArray} (h : ¬ ss.length = tt.length) : decide (ss = tt) = false := by
  simp; rintro rfl; exact h rfl
theorem take_ne {ss tt : List ByteArray} {k : Nat} (h0 : k < ss.length) (h1 : k < tt.length) (h : ¬ ss[k] = tt[k]) : decide (ss = tt) = false := by
  simp; rintro rfl; exact h rfl
set_option maxHeartbeats 400000 in
theorem texts_spec {w : World} (v0 v1 : Value) (ss tt : List ByteArray) (h0 : (rd 1 v0 ss.length (strs ss)).p (fr w)) (h1 : (rd 1 v1 tt.length (strs tt)).p (fr w)) (hl : ss.length ≤ 1099511627776) (hl1 : tt.length ≤ 1099511627776) :
    Calls Try.prog 19 #[v0, v1] w fun e w' => e = .returned (.bool (decide (ss = tt))) ∧ ∃ n, w' = w.drewN n := by
  obtain ⟨_, A0, c0, rfl, hc0, hr0⟩ := h0
  obtain ⟨_, A1, c1, rfl, hc1, hr1⟩ := h1
  have HR0 := Lib.hid hr0
  have HR1 := Lib.hid hr1
  clear hr0 hr1
  by_cases hlen : ss.length = tt.length
  · have HLn := Lib.hid hlen
    have hle : ss.length ≤ tt.length := by omega
    have hle' : tt.length ≤ ss.length := by omega
    have hb : (((ss.length : Int) == (tt.length : Int))) = true := by simp [hlen]
    have hb' : (((ss.length : Int) != (tt.length : Int))) = false := by simp [hlen]
    clear hlen
    go_enter Try.func19, Try.ntmps19
    go_wp2
    go_loopw [5] (fun i wr => TRel w ss tt i wr) (fun i _ => ss.length - (intOf i).toNat)
    case atStart => exact ⟨0, 0, rfl, Nat.zero_le _, rfl, by simp⟩
    case round =>
      obtain ⟨k, n, rfl, hk, rfl, ht⟩ := hrel
      have HT := Lib.hid ht
      clear ht
      by_cases hlt : k < ss.length
      · have hlt1 : k < tt.length := by omega
        obtain ⟨a0, rfl, q0⟩ := HR0.out k (.string ss[k]) (by simp [strs, hlt])
        obtain ⟨a1, rfl, q1⟩ := HR1.out k (.string tt[k]) (by simp [strs, hlt1])
        rw [fcell_fr] at q0 q1
        by_cases he : ss[k] = tt[k]
        · have b1 : (ss[k] == tt[k]) = true := (bytes_beq _ _).2 he
          have b2 : (ss[k].toList == tt[k].toList) = true := by rw [← beq_toListBytes]; exact b1
          have HE := Lib.hid he
          clear he
          go_wp2_with fail
          go_quiet (fail)
          go_wp2
          refine ⟨⟨k + 1, n + (nq + 0), by simp, hlt, ?_, ?_⟩, by simp [intOf]; omega⟩
          · simp [World.drewN, Nat.add_assoc]
          · rw [List.take_succ_eq_append_getElem hlt, List.take_succ_eq_append_getElem hlt1, HT.out, HE.out]
        · have b1 : (ss[k] == tt[k]) = false := by
            cases hh : (ss[k] == tt[k]) with
            | false => rfl
            | true => exact absurd ((bytes_beq _ _).1 hh) he
          have b2 : (ss[k].toList == tt[k].toList) = false := by rw [← beq_toListBytes]; exact b1
          have HE := Lib.hid he
          clear he
          go_wp2_with fail
          go_quiet (fail)
          go_wp2
          go_ret
          exact ⟨by rw [take_ne hlt hlt1 HE.out]; rfl, n + nq, by simp [World.drewN, Nat.add_assoc]⟩
      · have : k = ss.length := by omega
        go_wp2
        go_ret
        refine ⟨?_, n, rfl⟩
        have e := HT.out
        rw [this, List.take_length] at e
        rw [HLn.out, List.take_length] at e
        simp [e]
  · have HLn := Lib.hid hlen
    have hb : (((ss.length : Int) == (tt.length : Int))) = false := by simp; omega
    have hb' : (((ss.length : Int) != (tt.length : Int))) = true := by simp; omega
    clear hlen
    go_enter Try.func19, Try.ntmps19
    go_wp2
    go_ret
    exact ⟨by rw [texts_ne HLn.out]; rfl, 0, rfl⟩

/-- An event that is read. -/
def evK (e : Ev) (cs : List Value) : HP where
  p h := ∃ dv, cs = evCells e dv ∧ (rd 1 dv e.data.length (bc e.data)).p h ∧ bytesV e.data
  up := fun _ _ l ⟨dv, a, b, c⟩ => ⟨dv, a, (rd 1 dv _ _).up _ _ l b, c⟩
def rdEvs (v : Value) (l : List Ev) : HP := rdK evK 4 v l
theorem rdEvs_at {w : World} {v : Value} {l : List Ev} (x : (rdEvs v l).p (fr w)) (k : Nat) (hk : k < l.length) :
    ∃ ad c A c1, v = .slice (some ad) l.length c ∧ l.length ≤ c ∧ (l[k]).data.length ≤ c1 ∧ w.cell? (ad.add (k * 4)) = some (.int .u64 (l[k]).num) ∧ w.cell? ⟨(ad.add (k * 4)).block, (ad.add (k * 4)).off + 1, none⟩ = some (.int .i64 (l[k]).typ) ∧
      w.cell? ⟨(ad.add (k * 4)).block, (ad.add (k * 4)).off + 2, none⟩ = some (.int .i64 (l[k]).ver) ∧ w.cell? ⟨(ad.add (k * 4)).block, (ad.add (k * 4)).off + 3, none⟩ = some (.slice A (l[k]).data.length c1) ∧
      (rd 1 (.slice A (l[k]).data.length c1) (l[k]).data.length (bc (l[k]).data)).p (fr w) ∧ bytesV (l[k]).data := by
  obtain ⟨ad, c, cs, e, hc, _, ⟨dv, rfl, hd, hb⟩, hcell⟩ := rdK_at x k hk
  obtain ⟨_, A, c1, rfl, hc1, _⟩ := id hd
  have q0 := hcell 0 _ rfl
  have q1 := hcell 1 _ rfl
  have q2 := hcell 2 _ rfl
  have q3 := hcell 3 _ rfl
  rw [fcell_fr, Nat.add_zero] at q0
  rw [fcell_fr, ← Addr.add_add] at q1 q2 q3
  have hadd : ∀ i, (ad.add (k * 4)).add (i + 1) = ⟨(ad.add (k * 4)).block, (ad.add (k * 4)).off + (i + 1), none⟩ := fun i => rfl
  exact ⟨ad, c, A, c1, e, hc, hc1, q0, by rw [← hadd]; exact q1, by rw [← hadd]; exact q2, by rw [← hadd]; exact q3, hd, hb⟩
theorem rdEvs_of_own {v : Value} {l : List Ev} {h : Frag} (x : (evsHP v l).p h) : (rdEvs v l).p h := by
  obtain ⟨css, x⟩ := x
  have hL := star_right x
  obtain ⟨hl, A, c, rfl, hc, hz⟩ := own_rd (star_left x)
  obtain ⟨A', c', e', hc', hcm⟩ := own_slice (star_left x)
  cases e'
  have hlens := evs_lens hL
  refine ⟨A, c, rfl, hc, hcm, fun hp => ?_⟩
  have hcl := listHP_len hL
  have h0 : css.flatten ≠ [] := by
    intro e
    rw [e] at hl; simp only [List.length_nil] at hl; omega
  obtain ⟨a, rfl⟩ : ∃ a, A = some a := by
    cases hf : css.flatten with
    | nil => exact absurd hf h0
    | cons u r => obtain ⟨a, ha, _⟩ := hz 0 u (by rw [hf]; rfl); exact ⟨a, ha⟩
  refine ⟨a, rfl, fun j e he => ?_⟩
  obtain ⟨cs, hcs, dv, hE⟩ := listHP_get hL he
  obtain ⟨⟨rfl, hb⟩, hd⟩ := (star_pu _ _ _).1 hE
  refine ⟨_, rfl, ⟨dv, rfl, own_rd hd, hb⟩, fun i u hu => ?_⟩
  have hi : i < 4 := by
    have := (List.getElem?_eq_some_iff.1 hu).1
    simpa [evCells] using this
  obtain ⟨a', ea, hcell⟩ := hz (j * 4 + i) u (by rw [flatten_get 4 css hlens j i _ hcs hi]; exact hu)
  cases ea
  exact hcell
instance evDec : DecidableEq Ev := fun a b => decidable_of_iff (a.num = b.num ∧ a.typ = b.typ ∧ a.ver = b.ver ∧ a.data = b.data) (by cases a; cases b; simp)
theorem ev_ext {a b : Ev} (h1 : a.num = b.num) (h2 : a.typ = b.typ) (h3 : a.ver = b.ver) (h4 : a.data = b.data) : a = b := by cases a; cases b; simp_all
def SRel (w : World) (ss tt : List Ev) (i : Value) (wr : World) : Prop := ∃ k n : Nat, i = .int .i64 k ∧ k ≤ ss.length ∧ wr = w.drewN n ∧ ss.take k = tt.take k
theorem same_ne {ss tt : List Ev} (h : ¬ ss.length = tt.length) : decide (ss = tt) = false := by
  simp; rintro rfl; exact h rfl
theorem ev_take_ne {ss tt : List Ev} {k : Nat} (h0 : k < ss.length) (h1 : k < tt.length) (h : ¬ ss[k] = tt[k]) : decide (ss = tt) = false := by
  simp; rintro rfl; exact h rfl
theorem same_next {w : World} {ss tt : List Ev} {k n m : Nat} (h0 : k < ss.length) (h1 : k < tt.length) (ht : ss.take k = tt.take k) (h : ss[k] = tt[k]) :
    SRel w ss tt (.int .i64 (k + 1)) (w.drewN (n + m)) :=
  ⟨k + 1, n + m, by simp, h0, rfl, by rw [List.take_succ_eq_append_getElem h0, List.take_succ_eq_append_getElem h1, ht, h]⟩
set_option maxHeartbeats 4000000 in
theorem same_spec {w : World} (v0 v1 : Value) (ss tt : List Ev) (h0 : (rdEvs v0 ss).p (fr w)) (h1 : (rdEvs v1 tt).p (fr w)) (hl : ss.length ≤ 1099511627776) (hl1 : tt.length ≤ 1099511627776) :
    Calls Try.prog 16 #[v0, v1] w fun e w' => e = .returned (.bool (decide (ss = tt))) ∧ ∃ n, w' = w.drewN n := by
  have HR0 := Lib.hid (rdEvs_at h0)
  have HR1 := Lib.hid (rdEvs_at h1)
  obtain ⟨A0, c0, rfl, hc0, _, _⟩ := h0
  obtain ⟨A1, c1, rfl, hc1, _, _⟩ := h1
  by_cases hlen : ss.length = tt.length
  · have HLn := Lib.hid hlen
    have hle : ss.length ≤ tt.length := by omega
    have hle' : tt.length ≤ ss.length := by omega
    have hb : (((ss.length : Int) == (tt.length : Int))) = true := by simp [hlen]
    have hb' : (((ss.length : Int) != (tt.length : Int))) = false := by simp [hlen]
    clear hlen
    go_enter Try.func16, Try.ntmps16
    go_wp2
    go_loopw [5] (fun i wr => SRel w ss tt i wr) (fun i _ => ss.length - (intOf i).toNat)
    case atStart => exact ⟨0, 0, rfl, Nat.zero_le _, rfl, by simp⟩
    case round =>
      obtain ⟨k, n, rfl, hk, rfl, ht⟩ := hrel
      have HT := Lib.hid ht
      clear ht
      by_cases hlt : k < ss.length
      · have hlt1 : k < tt.length := by omega
        obtain ⟨a0, _, B0, d0, e0, _, p4, p0, p1, p2, p3, pr, pb⟩ := HR0.out k hlt
        obtain ⟨a1, _, B1, d1, e1, _, q4, q0, q1, q2, q3, qr, qb⟩ := HR1.out k hlt1
        cases e0
        cases e1
        have s0 : ∀ m, (convert 32 9 (.slice B0 (ss[k]).data.length d0)).run Try.prog (w.drewN m) = .ok (.string (strOfNums (ss[k]).data)) (w.drewN m) := fun m => run_str 32 5 9 Try.underlying32 Try.underlying5 Try.underlying9 (w := w.drewN m) pr
        have s1 : ∀ m, (convert 32 9 (.slice B1 (tt[k]).data.length d1)).run Try.prog (w.drewN m) = .ok (.string (strOfNums (tt[k]).data)) (w.drewN m) := fun m => run_str 32 5 9 Try.underlying32 Try.underlying5 Try.underlying9 (w := w.drewN m) qr
        clear pr qr
        by_cases x0 : (ss[k]).num = (tt[k]).num
        · have X0 := Lib.hid x0
          have y0 : ((ss[k]).num == (tt[k]).num) = true := by simp [x0]
          have z0 : ((ss[k]).num != (tt[k]).num) = false := by simp [x0]
          clear x0
          by_cases x1 : (ss[k]).typ = (tt[k]).typ
          · have X1 := Lib.hid x1
            have y1 : ((ss[k]).typ == (tt[k]).typ) = true := by simp [x1]
            have z1 : ((ss[k]).typ != (tt[k]).typ) = false := by simp [x1]
            clear x1
            by_cases x2 : (ss[k]).ver = (tt[k]).ver
            · have X2 := Lib.hid x2
              have y2 : ((ss[k]).ver == (tt[k]).ver) = true := by simp [x2]
              have z2 : ((ss[k]).ver != (tt[k]).ver) = false := by simp [x2]
              clear x2
              by_cases x3 : (ss[k]).data = (tt[k]).data
              · have X3 := Lib.hid x3
                have e3 : strOfNums (ss[k]).data = strOfNums (tt[k]).data := by rw [x3]
                have y3 : ((strOfNums (ss[k]).data).toList == (strOfNums (tt[k]).data).toList) = true := by rw [← beq_toListBytes]; exact (bytes_beq _ _).2 e3
                clear x3 e3
                go_wp2_with fail
                go_quiet (fail)
                go_wp2
                exact ⟨same_next hlt hlt1 HT.out (ev_ext X0.out X1.out X2.out X3.out), by simp [intOf]; omega⟩
              · have X3 := Lib.hid x3
                have y3 : ((strOfNums (ss[k]).data).toList == (strOfNums (tt[k]).data).toList) = false := by
                  rw [← beq_toListBytes]
                  cases hh : (strOfNums (ss[k]).data == strOfNums (tt[k]).data) with
                  | false => rfl
                  | true => exact absurd (strOfNums_inj pb qb ((bytes_beq _ _).1 hh)) x3
                clear x3
                go_wp2_with fail
                go_quiet (fail)
                go_wp2
                go_ret
                exact ⟨by rw [ev_take_ne hlt hlt1 (fun e => X3.out (by rw [e]))]; rfl, n + nq, by simp [World.drewN, Nat.add_assoc]⟩
            · have X2 := Lib.hid x2
              have y2 : ((ss[k]).ver == (tt[k]).ver) = false := by simp [x2]
              have z2 : ((ss[k]).ver != (tt[k]).ver) = true := by simp [x2]
              clear x2
              go_wp2_with fail
              go_quiet (fail)
              go_wp2
              go_ret
              exact ⟨by rw [ev_take_ne hlt hlt1 (fun e => X2.out (by rw [e]))]; rfl, n + nq, by simp [World.drewN, Nat.add_assoc]⟩
          · have X1 := Lib.hid x1
            have y1 : ((ss[k]).typ == (tt[k]).typ) = false := by simp [x1]
            have z1 : ((ss[k]).typ != (tt[k]).typ) = true := by simp [x1]
            clear x1
            go_wp2_with fail
            go_quiet (fail)
            go_wp2
            go_ret
            exact ⟨by rw [ev_take_ne hlt hlt1 (fun e => X1.out (by rw [e]))]; rfl, n + nq, by simp [World.drewN, Nat.add_assoc]⟩
        · have X0 := Lib.hid x0
          have y0 : ((ss[k]).num == (tt[k]).num) = false := by simp [x0]
          have z0 : ((ss[k]).num != (tt[k]).num) = true := by simp [x0]
          clear x0
          go_wp2_with fail
          go_quiet (fail)
          go_wp2
          go_ret
          exact ⟨by rw [ev_take_ne hlt hlt1 (fun e => X0.out (by rw [e]))]; rfl, n + nq, by simp [World.drewN, Nat.add_assoc]⟩
      · have : k = ss.length := by omega
        go_wp2
        go_ret
        refine ⟨?_, n, rfl⟩
        have e := HT.out
        rw [this, List.take_length] at e
        rw [HLn.out, List.take_length] at e
        simp [e]
  · have HLn := Lib.hid hlen
    have hb : (((ss.length : Int) == (tt.length : Int))) = false := by simp; omega
    have hb' : (((ss.length : Int) != (tt.length : Int))) = true := by simp; omega
    clear hlen
    go_enter Try.func16, Try.ntmps16
    go_wp2
    go_ret
    exact ⟨by rw [same_ne HLn.out]; rfl, 0, rfl⟩
end Go.Proofs.Ytnjalbgcmgmmeaa
