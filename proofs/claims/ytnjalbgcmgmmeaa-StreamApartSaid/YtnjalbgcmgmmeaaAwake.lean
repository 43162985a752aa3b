/- 'awake' of the laws of layer 24 over the model's worlds: it returns true. Conditions: none. -/
import Derived.Test.YtnjalbgcmgmmeaaMuch
import Derived.Lib.SlBytesConst
namespace Go.Proofs.Ytnjalbgcmgmmeaa
open Go.RowKit Sl

abbrev sa : ByteArray := ⟨#[97]⟩
def evA : Ev := ⟨1, 3, 1, [120]⟩
def mA : Model := [(sa, [evA])]
theorem m1 : addM [] sa 1 3 1 [120] = mA := by rfl
theorem m2 : addM mA sa 1 0 0 [] = mA := by rfl
theorem m3 : (getM mA sa).filter (want 3) = [evA] := by rfl
theorem m4 : sortedKeys mA = [[97]] := by simp [sortedKeys, keysOf, mA, sa, List.mergeSort]
theorem n1 : two (addNum [] sa 1) (addErr [] sa 1) = .tuple #[.int .u64 1, .int .i64 0] := by rfl
theorem n2 : two (addNum mA sa 1) (addErr mA sa 1) = .tuple #[.int .u64 0, .int .i64 240] := by rfl
theorem names_rd {v : Value} {ss : List (List UInt8)} {h : Frag} (x : (namesHP v ss).p h) : (rd 1 v ss.length (ss.map encStr)).p h := own_rd x

theorem Ret.un {G : Env} {c : Value} {A : HP} {e : Ending} {w : World} (h : Ret G (fun v => pu (v = c) * A) e w) : e = .returned c ∧ Sat G w A := by
  obtain ⟨v, rfl, h⟩ := h
  have hp := h.pu
  exact ⟨by rw [hp.1], hp.2⟩
theorem New_calls {G : Env} {w : World} {R : HP} (h : Sat G w R) : Calls Try.prog 9 #[] w fun e w' => ∃ b, e = .returned (.pointer (some ⟨b, 0, none⟩)) ∧ Sat G w' (strHP b [] * R) :=
  (New_spec h).mono fun e w' ⟨v, he, hs⟩ => by
    obtain ⟨b, hb⟩ := hs.2
    have hp := (star_pu _ _ _).1 hb
    exact ⟨b, by rw [he, hp.1], hs.1, hp.2⟩
theorem Add_calls {G : Env} {w : World} {R : HP} (b : Nat) {M : Model} (s : ByteArray) (x a1 a2 a3 : Int) (dv : Value) (xs : List Int) (h : Sat G w (strHP b M * R))
    (hd : (rd 1 dv xs.length (bc xs)).p (fr w)) (hb : bytesV xs) (hsz : xs.length ≤ 140737488355328) (hlen : (getM M s).length ≤ 1048576) :
    Calls Try.prog 13 #[.pointer (some ⟨b, 0, none⟩), .string s, .int .u64 x, .agg #[.int .u64 a1, .int .i64 a2, .int .i64 a3, dv]] w fun e w' =>
      e = .returned (two (addNum M s x) (addErr M s x)) ∧ Sat G w' (strHP b (addM M s x a2 a3 xs) * R) :=
  (Add_spec b s x a1 a2 a3 dv xs h hd hb hsz hlen).mono fun _ _ h => Ret.un h

set_option maxHeartbeats 4000000 in
theorem awake_spec {G : Env} {w : World} {R : HP} (h : Sat G w R) : Calls Try.prog 7 #[] w (Ret G fun v => pu (v = .bool true) * R) := by
  have hcv := fun (w : World) (C : Array Value) (n c : Nat) => Lib.run_convert_bytes_const (P := Try.prog) w 32 5 C n c Try.underlying32 Try.underlying5
  go_enter Try.func7, Try.ntmps7
  go_wp2_with fail
  refine (New_calls h).mono ?_
  rintro e w1 ⟨b, rfl, h1⟩
  have h2 := h1.alloc (.cells #[.int .u8 120] 5 (1, 2))
  have hd := rd_blk h2.blk 1 1 (by rfl)
  have H1 := Lib.hid h1
  have H2 := Lib.hid h2.right
  have HD := Lib.hid hd
  clear h h1 h2 hd
  go_wp2_with (go_at_call 15; refine (Next_spec _ H1.out).mono ?_; rintro e w' ⟨rfl, rfl⟩)
  refine (Add_calls b sa 1 9 3 1 _ [120] H2.out HD.out (by simp [bytesV]) (by simp) (by simp [getM, atM])).mono ?_
  rintro e w2 ⟨rfl, h2⟩
  rw [n1]
  rw [m1] at h2
  clear HD H1 H2
  have H2 := Lib.hid h2
  have HD := Lib.hid (rd_nil 1 (fr w2))
  clear h2
  go_wp2_with fail
  refine (Add_calls b sa 1 0 0 0 _ [] H2.out HD.out (by simp [bytesV]) (by simp) (by simp [getM, atM, mA])).mono ?_
  rintro e w3 ⟨rfl, h3⟩
  rw [n2]
  rw [m2] at h3
  clear HD H2
  go_wp2_with fail
  refine (Events_spec sa 3 h3 (by intro e he; simp [getM, atM, mA, evA] at he; subst he; simp) (by simp [getM, atM, mA])).mono ?_
  rintro e w4 ⟨v, rfl, h4⟩
  rw [m3] at h4
  have hr := rdEvs_of_own (star_left h4.2)
  obtain ⟨ad, c, A, c1, rfl, hc, hc1, q0, q1, q2, q3, q4, _⟩ := rdEvs_at hr 0 (by simp)
  simp only [List.getElem_cons_zero] at q0 q1 q2 q3 q4 hc hc1
  have q0' : w4.cell? ad = some (.int .u64 1) := q0
  have q3' : w4.cell? ⟨ad.block, ad.off + 3, none⟩ = some (.slice A 1 c1) := q3
  have hs : (convert 32 9 (.slice A 1 c1)).run Try.prog w4 = .ok (.string ⟨#[120]⟩) w4 := run_str 32 5 9 Try.underlying32 Try.underlying5 Try.underlying9 (w := w4) (v := .slice A 1 c1) (xs := [120]) q4
  clear q0 q1 q2 q3 q4 hc1
  have hk : ∀ p ∈ mA, p.1.size ≤ 256 := by intro p hp; simp [mA] at hp; subst hp; decide
  have h5 := h4.ac (B := strHP b mA * (evsHP (.slice (some ad) [evA].length c) [evA] * R)) (by ac_rfl)
  have H5 := Lib.hid h5
  have HK := Lib.hid hk
  clear h3 h4 h5 hr hk
  go_wp2_with (first | (go_at_call 15; refine (Next_spec _ H5.out).mono ?_; rintro e w' ⟨rfl, rfl⟩) | fail)
  refine (Names_spec H5.out HK.out (by simp [mA])).mono ?_
  rintro e w5 ⟨v5, rfl, h6⟩
  rw [m4] at h6
  obtain ⟨A5, c5, rfl, _, _⟩ := own_slice (star_left h6.2)
  have r0 := (rd 1 _ 1 (strs [sa])).up _ _ (fr_alloc_le w5 (.cells #[.string sa] 9)) (names_rd (star_left h6.2))
  have r1 := rd_new w5 #[.string sa] 9 1 1 (by rfl)
  have R0 := Lib.hid r0
  have R1 := Lib.hid r1
  have H6 := Lib.hid (h6.right.right.right.alloc' (.cells #[.string sa] 9))
  clear r0 r1 h6 q0' q3' hs
  go_wp2_with (first | (go_at_call 19; refine (texts_spec _ _ [sa] [sa] R0.out R1.out (by simp) (by simp)).mono ?_; rintro e w6 ⟨rfl, nq, rfl⟩) | (go_at_call 22; refine (Name_spec _).mono ?_; rintro e w' ⟨rfl, rfl⟩))
  go_ret
  exact Ret.mk _ (Sat.mkPu (by simp [NameB]; decide) (H6.out.drewN nq))
end Go.Proofs.Ytnjalbgcmgmmeaa
