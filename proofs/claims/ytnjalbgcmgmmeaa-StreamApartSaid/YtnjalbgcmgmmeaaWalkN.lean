/- StreamNumbers over the model's worlds. Conditions: none. -/
import Derived.Test.YtnjalbgcmgmmeaaAwake
import Derived.Test.YtnjalbgcmgmmeaaInv
import Derived.Test.YtnjalbgcmgmmeaaSel
import Derived.Test.YtnjalbgcmgmmeaaNamesLaw
namespace Go.Proofs.Ytnjalbgcmgmmeaa
open Go.RowKit Sl

def PlayRel (G : Env) (b : Nat) (R : HP) (len : Nat) (i : Value) (w : World) : Prop := ∃ (k : Nat) (M : Model), i = .int .i64 k ∧ k ≤ len ∧ Inv k M ∧ Sat G w (strHP b M * R)
abbrev boxCells (o : OpM) (nm : ByteArray) (dv : Value) : Array Value := #[.int .i64 o.kind, .int .i64 o.who, .string nm, .int .u64 o.more, .int .u64 o.e.num, .int .i64 o.e.typ, .int .i64 o.e.ver, dv, .int .i64 o.typ]
theorem box_held {G : Env} {w : World} {R : HP} {B0 : Nat} {o : OpM} {nm : ByteArray} {dv : Value} (h : Sat G w (blk B0 (.cells (boxCells o nm dv) 36) * R)) :
    w.cell? ⟨B0, 2, none⟩ = some (.string nm) ∧ w.cell? ⟨B0, 3, none⟩ = some (.int .u64 o.more) ∧ w.cell? ⟨B0, 4, none⟩ = some (.int .u64 o.e.num) ∧ w.cell? ⟨B0, 5, none⟩ = some (.int .i64 o.e.typ) ∧
      w.cell? ⟨B0, 6, none⟩ = some (.int .i64 o.e.ver) ∧ w.cell? ⟨B0, 7, none⟩ = some dv :=
  ⟨h.cell 2, h.cell 3, h.cell 4, h.cell 5, h.cell 6, h.cell 7⟩

theorem want_all (l : List Ev) : l.filter (want (-1)) = l := List.filter_eq_self.2 (fun _ _ => rfl)
theorem evs_own {v : Value} {l : List Ev} {h : Frag} (x : (evsHP v l).p h) : (own 34 4 v l.length (Classical.choose x).flatten).p h := star_left (Classical.choose_spec x)
def AtRel (G : Env) (X : HP) (n : Nat) (i : Value) (w : World) : Prop := ∃ k : Nat, i = .int .i64 k ∧ k ≤ n ∧ Sat G w X
def NRel (G : Env) (X : HP) (ss : List (List UInt8)) (s : ByteArray) (f i : Value) (w : World) : Prop := ∃ k : Nat, i = .int .i64 k ∧ k ≤ ss.length ∧ f = .bool (decide (s.data.toList ∈ ss.take k)) ∧ Sat G w X
theorem nrel_next {G : Env} {X : HP} {ss : List (List UInt8)} {s : ByteArray} {w : World} {k : Nat} (hk : k < ss.length) (h : Sat G w X) (b : Bool) (hb : b = decide (s.data.toList ∈ ss.take (k + 1))) {i : Int} (hi : i = (k : Int) + 1) : NRel G X ss s (.bool b) (.int .i64 i) w :=
  ⟨k + 1, by rw [hi]; simp, hk, by rw [hb], h⟩
theorem take_yes {ss : List (List UInt8)} {x : List UInt8} {k : Nat} (hk : k < ss.length) (h : x ∈ ss.take k ∨ ss[k] = x) : true = decide (x ∈ ss.take (k + 1)) := by
  rw [List.take_succ_eq_append_getElem hk]
  symm
  refine decide_eq_true ?_
  rw [List.mem_append]
  rcases h with h | h
  · exact .inl h
  · exact .inr (by simp [h])
theorem take_no {ss : List (List UInt8)} {x : List UInt8} {k : Nat} (hk : k < ss.length) (h : ¬ x ∈ ss.take k) (h' : ¬ ss[k] = x) : false = decide (x ∈ ss.take (k + 1)) := by
  rw [List.take_succ_eq_append_getElem hk]
  symm
  refine decide_eq_false ?_
  rw [List.mem_append]
  rintro (h1 | h1)
  · exact h h1
  · simp at h1; exact h' h1.symm
theorem IntWalk_sub (k : Nat) (h : k ≤ 1048576) : IntKind.i64.wrap ((k : Int) + 1 - 1) = (k : Int) := by
  rw [show (k : Int) + 1 - 1 = (k : Int) from by omega]
  exact IntWalk.i64_in _ (by omega)
theorem cast_succ2 (k : Nat) : (k : Int) + 1 + 1 = ((k + 1 : Nat) : Int) + 1 := by omega
set_option maxRecDepth 100000 in
set_option maxHeartbeats 8000000 in
theorem StreamNumbers_walk (W : World) (v : Value) (ops : List OpM) (h : (rdK opK 9 v ops).p (fr W)) (hl : ops.length * 96 ≤ 140737488351232) (s : ByteArray) (hs : s.size ≤ 140737488351232) :
    Calls Try.prog 4 #[v, .string s] W fun e w' => e = .returned (.bool true) ∧ Below W.heap.size W w' := by
  have hW := Sat.ro_mk W
  generalize hG : env W = G at hW
  generalize hF : fr W = F at h hW
  obtain ⟨A0, c0, rfl, hc0, _, _⟩ := id h
  have HA := Lib.hid h
  have HW := Lib.hid hW.add
  have HG := Lib.hid hG
  have HF := Lib.hid hF
  clear h hW hG hF
  go_enter Try.func4, Try.ntmps4
  go_wp2_with fail
  refine (awake_spec HW.out).mono ?_
  intro e w1 hr
  obtain ⟨rfl, h1⟩ := Ret.un hr
  have hm := much_spec (w := w1) _ ops ((rdK opK 9 _ ops).up _ _ h1.ro HA.out) hl
  have H1 := Lib.hid h1
  have HM := Lib.hid hm
  clear hr h1 hm
  go_wp2_with fail
  refine HM.out.mono ?_
  rintro e w2 ⟨r, rfl, hlim, n, rfl⟩
  have H1 := Lib.hid (H1.out.drewN n)
  have HL := Lib.hid hlim
  clear hlim
  cases r with
  | true =>
    go_wp2
    go_ret
    have := H1.out
    rw [← HG.out, ← HF.out] at this
    exact ⟨rfl, this.belowOf⟩
  | false =>
    obtain ⟨hlen, htot⟩ := HL.out rfl
    go_wp2_with fail
    refine (New_calls H1.out).mono ?_
    rintro e w3 ⟨b, rfl, h3⟩
    have H3 := Lib.hid h3
    clear h3
    go_wp2
    go_loopw [7] (fun i wr => PlayRel G b (ro F * emp) ops.length i wr) (fun i _ => ops.length - (intOf i).toNat)
    case atStart => exact ⟨0, [], rfl, Nat.zero_le _, Inv.nil, H3.out⟩
    case round =>
      obtain ⟨k, M, rfl, hk, hI, hS⟩ := hrel
      by_cases hlt : k < ops.length
      · have hF := hS.right.ro
        obtain ⟨ad, _, A, d, e0, _, p9, p0, p1, p2, p3, p4, p5, p6, p7, p8, pr, pb⟩ := op_read ((rdK opK 9 _ ops).up _ _ hF HA.out) k hlt
        cases e0
        generalize hek : ops[k] = o at *
        by_cases hpar : k % 2 = 0
        · have hpar' : ((k : Int) % 2 == 0) = true := by simp; omega
          have hb := hS.alloc (.cells (boxCells o s (.slice A o.e.data.length d)) 36)
          have pr' := (rd 1 _ _ _).up _ _ (fr_alloc_le wr (.cells (boxCells o s (.slice A o.e.data.length d)) 36)) pr
          obtain ⟨g1, g2, g3⟩ := getM_ok hI s
          have hn2 := pb.dlen
          have gg1 : (getM M s).length ≤ 1048576 := by omega
          have PB := Lib.hid pb
          have PR := Lib.hid pr'
          have HI := Lib.hid hI
          have HS := Lib.hid hb
          have hlt' : k < 2000 := by omega
          clear pr pr' pb hS hb hI hF g2 g3 g1
          go_wp2_with fail
          generalize wr.heap.size = B0 at *
          obtain ⟨s2, s3, s4, s5, s6, s7⟩ := box_held HS.out
          have HT := Lib.hid (HS.out.ac (B := strHP b M * (blk B0 (.cells (boxCells o s (.slice A o.e.data.length d)) 36) * (ro F * emp))) (by ac_rfl))
          generalize wr.alloc _ = wb at *
          go_region_held3 (fun w' => w'.cell? ⟨B0, 2, none⟩ = some (.string s) ∧ w'.cell? ⟨B0, 3, none⟩ = some (.int .u64 o.more) ∧ w'.cell? ⟨B0, 4, none⟩ = some (.int .u64 o.e.num) ∧ w'.cell? ⟨B0, 5, none⟩ = some (.int .i64 o.e.typ) ∧ w'.cell? ⟨B0, 6, none⟩ = some (.int .i64 o.e.ver) ∧ w'.cell? ⟨B0, 7, none⟩ = some (.slice A o.e.data.length d))
            (first
              | exact ⟨s2, s3, s4, s5, s6, s7⟩
              | exact box_held HS.out.drew
              | exact box_held hx.right)
            (first
              | (go_at_call 15; refine (Next_spec _ (HS.out.drew).right).mono ?_; rintro e w' ⟨rfl, rfl⟩)
              | (go_at_call 13; refine (Add_calls b s _ _ _ _ _ o.e.data HT.out.drew PR.out PB.out.bytes (by omega) gg1).mono ?_; rintro e w' ⟨rfl, hx⟩))
          all_goals
            clear s2 s3 s4 s5 s6 s7
            go_wp2
            exact ⟨⟨k + 1, _, by simp, hlt, addM_ok HI.out _ _ _ _ _ PB.out.dlen PB.out.bytes, (hx.ac (B := strHP b (addM M s _ _ _ _) * (ro F * emp) * blk B0 (.cells (boxCells o s (.slice A o.e.data.length d)) 36)) (by ac_rfl)).left⟩, by simp [intOf]; omega⟩
        · have hpar' : ((k : Int) % 2 == 0) = false := by simp; omega
          have hb := hS.alloc (.cells (boxCells o o.name (.slice A o.e.data.length d)) 36)
          have pr' := (rd 1 _ _ _).up _ _ (fr_alloc_le wr (.cells (boxCells o o.name (.slice A o.e.data.length d)) 36)) pr
          obtain ⟨g1, g2, g3⟩ := getM_ok hI o.name
          have hn2 := pb.dlen
          have gg1 : (getM M o.name).length ≤ 1048576 := by omega
          have PB := Lib.hid pb
          have PR := Lib.hid pr'
          have HI := Lib.hid hI
          have HS := Lib.hid hb
          have hlt' : k < 2000 := by omega
          clear pr pr' pb hS hb hI hF g2 g3 g1
          go_wp2_with fail
          generalize wr.heap.size = B0 at *
          obtain ⟨s2, s3, s4, s5, s6, s7⟩ := box_held HS.out
          have HT := Lib.hid (HS.out.ac (B := strHP b M * (blk B0 (.cells (boxCells o o.name (.slice A o.e.data.length d)) 36) * (ro F * emp))) (by ac_rfl))
          generalize wr.alloc _ = wb at *
          go_region_held3 (fun w' => w'.cell? ⟨B0, 2, none⟩ = some (.string o.name) ∧ w'.cell? ⟨B0, 3, none⟩ = some (.int .u64 o.more) ∧ w'.cell? ⟨B0, 4, none⟩ = some (.int .u64 o.e.num) ∧ w'.cell? ⟨B0, 5, none⟩ = some (.int .i64 o.e.typ) ∧ w'.cell? ⟨B0, 6, none⟩ = some (.int .i64 o.e.ver) ∧ w'.cell? ⟨B0, 7, none⟩ = some (.slice A o.e.data.length d))
            (first
              | exact ⟨s2, s3, s4, s5, s6, s7⟩
              | exact box_held HS.out.drew
              | exact box_held hx.right)
            (first
              | (go_at_call 15; refine (Next_spec _ (HS.out.drew).right).mono ?_; rintro e w' ⟨rfl, rfl⟩)
              | (go_at_call 13; refine (Add_calls b o.name _ _ _ _ _ o.e.data HT.out.drew PR.out PB.out.bytes (by omega) gg1).mono ?_; rintro e w' ⟨rfl, hx⟩))
          all_goals
            clear s2 s3 s4 s5 s6 s7
            go_wp2
            exact ⟨⟨k + 1, _, by simp, hlt, addM_ok HI.out _ _ _ _ _ PB.out.dlen PB.out.bytes, (hx.ac (B := strHP b (addM M o.name _ _ _ _) * (ro F * emp) * blk B0 (.cells (boxCells o o.name (.slice A o.e.data.length d)) 36)) (by ac_rfl)).left⟩, by simp [intOf]; omega⟩
      · have hkk : k ≤ 2000 := by omega
        obtain ⟨g1, g2, g3⟩ := getM_ok hI s
        have HS := Lib.hid hS
        have HI := Lib.hid hI
        have HN := Lib.hid g3
        have g1' : (getM M s).length ≤ 1048576 := by omega
        have G2 := Lib.hid g2
        clear hS hI g3 g2
        go_wp2_with fail
        refine (Events_spec s (-1) HS.out (fun e he => by have := (G2.out e he).1; omega) g1').mono ?_
        rintro e w4 ⟨va, rfl, h4⟩
        rw [want_all] at h4
        obtain ⟨A, c, rfl, hc, hcm⟩ := own_slice (evs_own (star_left h4.2))
        have hr := rdEvs_of_own (star_left h4.2)
        have hX := h4.ac (B := strHP b M * (evsHP (.slice A (getM M s).length c) (getM M s) * (ro F * emp))) (by ac_rfl)
        have HX := Lib.hid hX
        have HR := Lib.hid (rdEvs_at hr)
        clear h4 hr hX
        go_wp2_with (go_at_call 15; refine (Next_spec _ HX.out).mono ?_; rintro e w' ⟨rfl, rfl⟩)
        clear HR
        go_loopw [10] (fun i wr => AtRel G (strHP b M * (evsHP (.slice A (getM M s).length c) (getM M s) * (ro F * emp))) (getM M s).length i wr) (fun i _ => (getM M s).length - (intOf i).toNat)
        case atStart => exact ⟨0, rfl, Nat.zero_le _, HX.out⟩
        case round =>
          obtain ⟨k2, rfl, hk2, hS⟩ := hrel
          by_cases hlt2 : k2 < (getM M s).length
          · obtain ⟨ad, _, B, d, e0, _, p4, p0, p1, p2, p3, pr, pb⟩ := rdEvs_at (rdEvs_of_own (star_left (star_right hS.2))) k2 hlt2
            cases e0
            have hnum := HN.out k2 hlt2
            rw [hnum] at p0
            have HS := Lib.hid hS
            clear pr p1 p2 p3 hnum hS
            go_wp2
            exact ⟨⟨k2 + 1, by simp, hlt2, HS.out⟩, by simp [intOf]; omega⟩
          · have HX := Lib.hid hS
            clear hS
            go_wp2_with fail
            go_loopw [11] (fun i wr => AtRel G (strHP b M * (evsHP (.slice A (getM M s).length c) (getM M s) * (ro F * emp))) (getM M s).length i wr) (fun i _ => (getM M s).length - (intOf i).toNat)
            case atStart => exact ⟨0, rfl, Nat.zero_le _, HX.out⟩
            case round =>
              obtain ⟨k3, rfl, hk3, hS⟩ := hrel
              by_cases hlt3 : k3 < (getM M s).length ∧ k3 < 8
              · obtain ⟨hl3, h8⟩ := hlt3
                obtain ⟨css, hS1⟩ := (hS.ac (B := evsHP (.slice A (getM M s).length c) (getM M s) * (strHP b M * (ro F * emp))) (by ac_rfl)).ex
                have hS2 := hS1.ac (B := own 34 4 (.slice A (getM M s).length c) (getM M s).length css.flatten * (listHP evHP (getM M s) css * (strHP b M * (ro F * emp)))) (by ac_rfl)
                obtain ⟨g, B3, d3, e3, _, p0, p1, p2, p3⟩ := ev_read2 hS2 k3 hl3
                cases e3
                have h8' : (k3 : Int) < 8 := by omega
                generalize ht : ((getM M s)[k3]).typ = t at *
                clear p0 p2 p3 ht
                have HS := Lib.hid hS
                have HS2 := Lib.hid hS2
                clear hS hS1 hS2
                by_cases hneg : t < 0
                · go_wp2
                  exact ⟨⟨k3 + 1, by simp, hl3, HS.out⟩, by simp [intOf]; omega⟩
                · have hS2 := HS2.out
                  have hE := own_empty hS2 34 4
                  have hcl := listHP_len hS2.right.left.2
                  have HE := Lib.hid hE
                  have HCL := Lib.hid hcl
                  have HNEG := Lib.hid hneg
                  clear hS2 hE hcl
                  go_wp2_with fail
                  generalize hZ : (getM M s).zip css = Z at *
                  have HZ := Lib.hid hZ
                  clear hZ
                  go_loopw [13, 14] (fun v i wr => SelRel G (own 34 4 (.slice (some ⟨g, 0, none⟩) (getM M s).length c) (getM M s).length css.flatten * (listHP evHP (getM M s) css * (strHP b M * (ro F * emp)))) Z t (getM M s).length v i wr) (fun _ i _ => (getM M s).length - (intOf i).toNat)
                  case atStart => exact ⟨0, rfl, Nat.zero_le _, by simpa [selCells, sel_zero] using HE.out⟩
                  case round =>
                    obtain ⟨k4, rfl, hk4, hS4⟩ := hrel
                    by_cases hl4 : k4 < (getM M s).length
                    · obtain ⟨g', B4, d4, e4, hcs, r0, r1, r2, r3⟩ := ev_read2 hS4.right k4 hl4
                      cases e4
                      have hz4 : Z[k4]? = some ((getM M s)[k4], evCells (getM M s)[k4] (.slice B4 ((getM M s)[k4]).data.length d4)) := by
                        rw [← HZ.out, List.getElem?_zip_eq_some]
                        exact ⟨List.getElem?_eq_getElem hl4, hcs⟩
                      have hsl := sel_le Z t k4
                      have hzl : Z.length ≤ 1048576 := by rw [← HZ.out]; simp; omega
                      clear hcs
                      generalize (getM M s)[k4] = e4 at *
                      by_cases he : e4.typ = t
                      · have he0 := Lib.hid he
                        have hb : (e4.typ == t) = true := by simp [he]
                        have hA := hS4.alloc' (.cells #[.int .u64 e4.num, .int .i64 e4.typ, .int .i64 e4.ver, .slice B4 e4.data.length d4] 34)
                        have hN : (rd 4 _ 1 (evCells e4 (.slice B4 e4.data.length d4))).p _ := rd_new wr #[.int .u64 e4.num, .int .i64 e4.typ, .int .i64 e4.ver, .slice B4 e4.data.length d4] 34 4 1 (by rfl)
                        have HA := Lib.hid hA
                        have HN := Lib.hid hN
                        have HE4 := he0
                        have HZ4 := Lib.hid hz4
                        obtain ⟨i0, hi, hz0, hz1, hz2⟩ := info_parts info34
                        clear hA hN he hz4 hS4
                        go_wp2_with (at_builtin; refine wpList_append_sl (e := 34) (size := 4) rfl _ _ 44 rfl i0 _ _ Try.underlying44 hi hz0 hz1 hz2 rfl rfl HA.out _ 1 _ rfl HN.out ?_ ?_ ?_ ?_ ?_)
                        · intro u hu; simp [evCells] at hu; rcases hu with rfl | rfl | rfl | rfl <;> rfl
                        · intro v' w' h'
                          go_wp2
                          have hrel : SelRel G (own 34 4 (.slice (some ⟨g, 0, none⟩) (getM M s).length c) (getM M s).length css.flatten * (listHP evHP (getM M s) css * (strHP b M * (ro F * emp)))) Z t (getM M s).length v' (.int .i64 (k4 + 1)) w' := by
                            refine ⟨k4 + 1, by simp, hl4, ?_⟩
                            unfold selCells at h' ⊢
                            rw [sel_yes HZ4.out HE4.out]
                            simpa using h'
                          exact ⟨hrel, by simp [intOf]; omega⟩
                        all_goals omega
                      · have hb : (e4.typ == t) = false := by simp [he]
                        have HE4 := Lib.hid he
                        have HZ4 := Lib.hid hz4
                        have HS4 := Lib.hid hS4
                        clear he hz4 hS4
                        go_wp2
                        refine ⟨⟨k4 + 1, by simp, hl4, ?_⟩, by simp [intOf]; omega⟩
                        unfold selCells
                        rw [sel_no HZ4.out HE4.out]
                        exact HS4.out
                    · obtain rfl : k4 = (getM M s).length := by omega
                      have hE5 := Events_spec s t (hS4.ac (B := strHP b M * (own 34 4 u13 (sel Z t (getM M s).length).length (selCells Z t (getM M s).length) * (own 34 4 (.slice (some ⟨g, 0, none⟩) (getM M s).length c) (getM M s).length css.flatten * (listHP evHP (getM M s) css * (ro F * emp))))) (by ac_rfl)) (fun e he => by have := (G2.out e he).1; omega) g1'
                      have HE5 := Lib.hid hE5
                      clear hE5 hS4
                      go_wp2_with fail
                      refine HE5.out.mono ?_
                      rintro e w5 ⟨v5, rfl, h5⟩
                      have h6 := h5.right.right
                      have hsr := rdEvs_mk (star_left h6.2) (by rw [← HZ.out]; exact sel_evK h6.right.right.left.2 t _)
                      have hdec : (sel Z t (getM M s).length).map (·.1) = (getM M s).filter (want t) := by rw [← HZ.out]; exact sel_all HCL.out (Int.not_lt.2 HNEG.out)
                      rw [hdec] at hsr
                      have hfl := List.length_filter_le (want t) (getM M s)
                      have hsm := same_spec _ _ _ _ (rdEvs_of_own (star_left h5.2)) hsr (by omega) (by omega)
                      have HSM := Lib.hid hsm
                      have h7 := (h5.ac (B := (strHP b M * ((own 34 4 (.slice (some ⟨g, 0, none⟩) (getM M s).length c) (getM M s).length css.flatten * listHP evHP (getM M s) css) * (ro F * emp))) * (evsHP v5 ((getM M s).filter (want t)) * own 34 4 u13 (sel Z t (getM M s).length).length (selCells Z t (getM M s).length))) (by ac_rfl)).left
                      have H7 := Lib.hid h7
                      clear h5 h6 hsr hsm h7 hdec
                      go_wp2_with (go_at_call 16; refine HSM.out.mono ?_; rintro e w6 ⟨rfl, nq, rfl⟩)
                      have h8 := Sat.mkEx (A := fun css : List (List Value) => own 34 4 (.slice (some ⟨g, 0, none⟩) (getM M s).length c) (getM M s).length css.flatten * listHP evHP (getM M s) css) css (H7.out.ac (B := (own 34 4 (.slice (some ⟨g, 0, none⟩) (getM M s).length c) (getM M s).length css.flatten * listHP evHP (getM M s) css) * (strHP b M * (ro F * emp))) (by ac_rfl))
                      have h9 : Sat G w5 (strHP b M * (evsHP (.slice (some ⟨g, 0, none⟩) (getM M s).length c) (getM M s) * (ro F * emp))) := h8.ac (by unfold evsHP; ac_rfl)
                      exact ⟨⟨k3 + 1, by simp, hl3, h9.drewN nq⟩, by simp [intOf]; omega⟩
              · have h3 : ¬ k3 < (getM M s).length ∨ (k3 < (getM M s).length ∧ ¬ k3 < 8) := by omega
                have HX := Lib.hid hS
                clear hS hlt3
                have hN6 := Names_spec HX.out (fun p hp => (HI.out.rows p hp).size) (by have := HI.out.len; omega)
                have HN6 := Lib.hid hN6
                clear hN6
                rcases h3 with h3 | ⟨h3, h8⟩
                all_goals
                  first
                    | have h8' : ¬ (k3 : Int) < 8 := by omega
                    | skip
                  go_wp2_with fail
                  refine HN6.out.mono ?_
                  rintro e w6 ⟨v6, rfl, h6⟩
                  obtain ⟨A6, c6, rfl, hc6, _⟩ := own_slice (star_left h6.2)
                  have H6 := Lib.hid h6
                  clear h6
                  go_wp2_with fail
                  go_loopw [16, 17] (fun f i wr => NRel G (namesHP (.slice A6 (sortedKeys M).length c6) (sortedKeys M) * (strHP b M * (evsHP (.slice A (getM M s).length c) (getM M s) * (ro F * emp)))) (sortedKeys M) s f i wr) (fun _ i _ => (sortedKeys M).length - (intOf i).toNat)
                  case atStart => exact ⟨0, rfl, Nat.zero_le _, by simp, H6.out⟩
                  case round =>
                    obtain ⟨k6, rfl, hk6, rfl, hS6⟩ := hrel
                    by_cases hl6 : k6 < (sortedKeys M).length
                    · obtain ⟨g6, rfl, hc⟩ := names_read hS6 k6 hl6
                      have q0 := hc k6 hl6
                      have HS6 := Lib.hid hS6
                      have hXm := hS6.ac (B := strHP b M * (namesHP (.slice (some ⟨g6, 0, none⟩) (sortedKeys M).length c6) (sortedKeys M) * (evsHP (.slice A (getM M s).length c) (getM M s) * (ro F * emp)))) (by ac_rfl)
                      have HXm := Lib.hid hXm
                      have hnx := key_next HI.out hl6
                      clear hS6 hXm
                      rcases k6 with _ | k6
                      · clear hc
                        have hm : ¬ s.data.toList ∈ (sortedKeys M).take 0 := by simp
                        · have HM6 := Lib.hid hm
                          have hd : decide (s.data.toList ∈ (sortedKeys M).take 0) = false := decide_eq_false hm
                          clear hm
                          by_cases he : (sortedKeys M)[0] = s.data.toList
                          · have HE6 := Lib.hid he
                            have hb1 : ((sortedKeys M)[0] == s.data.toList) = true := by simp [he]
                            have hb2 : ((sortedKeys M)[0] == s.toList) = true := by rw [ByteArray.toList_eq]; exact hb1
                            clear he hb1
                            go_wp2_with fail
                            go_quiet ((go_at_call 15; exact Calls.quiet_of_same (Next_spec (R := namesHP (.slice (some ⟨g6, 0, none⟩) (sortedKeys M).length c6) (sortedKeys M) * (evsHP (.slice A (getM M s).length c) (getM M s) * (ro F * emp))) _ (HXm.out.drewN _))))
                            go_wp2
                            exact ⟨nrel_next hl6 (HS6.out.drewN _) true (take_yes hl6 (.inr HE6.out)) (by simp), by simp [intOf]; omega⟩
                          · have HE6 := Lib.hid he
                            have hb1 : ((sortedKeys M)[0] == s.data.toList) = false := by simp [he]
                            have hb2 : ((sortedKeys M)[0] == s.toList) = false := by rw [ByteArray.toList_eq]; exact hb1
                            clear he hb1
                            go_wp2_with fail
                            go_quiet ((go_at_call 15; exact Calls.quiet_of_same (Next_spec (R := namesHP (.slice (some ⟨g6, 0, none⟩) (sortedKeys M).length c6) (sortedKeys M) * (evsHP (.slice A (getM M s).length c) (getM M s) * (ro F * emp))) _ (HXm.out.drewN _))))
                            go_wp2
                            exact ⟨nrel_next hl6 (HS6.out.drewN _) false (take_no hl6 HM6.out HE6.out) (by simp), by simp [intOf]; omega⟩
                      · have q1 := hc k6 (by omega)
                        have hrise := rise_at HI.out hl6
                        have hgt : (0 : Int) < (k6 : Int) + 1 := by omega
                        have hk60 : (0 : Int) ≤ (k6 : Int) := by omega
                        have hlen6 : ((sortedKeys M).length : Int) ≤ 1048576 := by have := HI.out.len; have := (keys_perm M).length_eq; simp [keysOf] at this; omega
                        have hk61 : (k6 : Int) + 1 < ((sortedKeys M).length : Int) := by omega
                        have hk62 : (k6 : Int) < ((sortedKeys M).length : Int) := by omega
                        have hk64 : (0 : Int) ≤ (k6 : Int) + 1 := by omega
                        have hwr : IntKind.i64.wrap ((k6 : Int) + 1 - 1) = (k6 : Int) := IntWalk_sub k6 (by have := HI.out.len; have := (keys_perm M).length_eq; simp [keysOf] at this; omega)
                        have hwr2 : IntKind.i64.wrap (k6 : Int) = (k6 : Int) := by have := hwr; rwa [show (k6 : Int) + 1 - 1 = (k6 : Int) from by omega] at this
                        clear hc
                        by_cases hm : s.data.toList ∈ (sortedKeys M).take (k6 + 1)
                        · have HM6 := Lib.hid hm
                          have hd : decide (s.data.toList ∈ (sortedKeys M).take (k6 + 1)) = true := decide_eq_true hm
                          clear hm
                          go_wp2_with fail
                          go_quiet ((go_at_call 15; exact Calls.quiet_of_same (Next_spec (R := namesHP (.slice (some ⟨g6, 0, none⟩) (sortedKeys M).length c6) (sortedKeys M) * (evsHP (.slice A (getM M s).length c) (getM M s) * (ro F * emp))) _ (HXm.out.drewN _))))
                          go_wp2
                          exact ⟨nrel_next hl6 (HS6.out.drewN _) true (take_yes hl6 (.inl HM6.out)) (cast_succ2 k6), by simp [intOf]; omega⟩
                        · have HM6 := Lib.hid hm
                          have hd : decide (s.data.toList ∈ (sortedKeys M).take (k6 + 1)) = false := decide_eq_false hm
                          clear hm
                          by_cases he : (sortedKeys M)[(k6 + 1)] = s.data.toList
                          · have HE6 := Lib.hid he
                            have hb1 : ((sortedKeys M)[(k6 + 1)] == s.data.toList) = true := by simp [he]
                            have hb2 : ((sortedKeys M)[(k6 + 1)] == s.toList) = true := by rw [ByteArray.toList_eq]; exact hb1
                            clear he hb1
                            go_wp2_with fail
                            go_quiet ((go_at_call 15; exact Calls.quiet_of_same (Next_spec (R := namesHP (.slice (some ⟨g6, 0, none⟩) (sortedKeys M).length c6) (sortedKeys M) * (evsHP (.slice A (getM M s).length c) (getM M s) * (ro F * emp))) _ (HXm.out.drewN _))))
                            go_wp2
                            exact ⟨nrel_next hl6 (HS6.out.drewN _) true (take_yes hl6 (.inr HE6.out)) (cast_succ2 k6), by simp [intOf]; omega⟩
                          · have HE6 := Lib.hid he
                            have hb1 : ((sortedKeys M)[(k6 + 1)] == s.data.toList) = false := by simp [he]
                            have hb2 : ((sortedKeys M)[(k6 + 1)] == s.toList) = false := by rw [ByteArray.toList_eq]; exact hb1
                            clear he hb1
                            go_wp2_with fail
                            go_quiet ((go_at_call 15; exact Calls.quiet_of_same (Next_spec (R := namesHP (.slice (some ⟨g6, 0, none⟩) (sortedKeys M).length c6) (sortedKeys M) * (evsHP (.slice A (getM M s).length c) (getM M s) * (ro F * emp))) _ (HXm.out.drewN _))))
                            go_wp2
                            exact ⟨nrel_next hl6 (HS6.out.drewN _) false (take_no hl6 HM6.out HE6.out) (cast_succ2 k6), by simp [intOf]; omega⟩
                    · obtain rfl : k6 = (sortedKeys M).length := by omega
                      have hf := found_iff HI.out s
                      rw [List.take_length, hf] at *
                      have HS6 := Lib.hid hS6
                      clear hS6 hf
                      have hbel := HS6.out.right.right.right
                      rw [← HG.out, ← HF.out] at hbel
                      have HBE := Lib.hid hbel.belowOf
                      clear hbel
                      by_cases hpos : 0 < (getM M s).length
                      · go_wp2
                        go_ret
                        exact ⟨rfl, HBE.out⟩
                      · go_wp2
                        go_ret
                        exact ⟨rfl, HBE.out⟩
end Go.Proofs.Ytnjalbgcmgmmeaa
