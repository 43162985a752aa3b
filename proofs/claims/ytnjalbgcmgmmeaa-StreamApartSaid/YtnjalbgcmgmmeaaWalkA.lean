/- StreamApart over the model's worlds. Conditions: none. -/
import Derived.Test.YtnjalbgcmgmmeaaApart
namespace Go.Proofs.Ytnjalbgcmgmmeaa
open Go.RowKit Sl

theorem boxA_held {G : Env} {w : World} {R : HP} {B0 : Nat} {o : OpM} {nm : ByteArray} {dv : Value} (h : Sat G w (blk B0 (.cells (boxCells o nm dv) 36) * R)) :
    w.cell? ⟨B0, 0, none⟩ = some (.int .i64 o.kind) ∧ w.cell? ⟨B0, 2, none⟩ = some (.string nm) ∧ w.cell? ⟨B0, 3, none⟩ = some (.int .u64 o.more) ∧ w.cell? ⟨B0, 4, none⟩ = some (.int .u64 o.e.num) ∧ w.cell? ⟨B0, 5, none⟩ = some (.int .i64 o.e.typ) ∧
      w.cell? ⟨B0, 6, none⟩ = some (.int .i64 o.e.ver) ∧ w.cell? ⟨B0, 7, none⟩ = some dv ∧ w.cell? ⟨B0, 8, none⟩ = some (.int .i64 o.typ) :=
  ⟨h.cell 0, h.cell 2, h.cell 3, h.cell 4, h.cell 5, h.cell 6, h.cell 7, h.cell 8⟩
theorem far_num {n : Nat} (h : n ≤ 4001) {m : Int} (h0 : 0 ≤ m) : IntKind.u64.wrap (IntKind.u64.wrap ((n : Int) + 1 + 1) + m.tmod 7) ≠ (n : Int) + 1 := by
  have h1 : IntKind.u64.wrap ((n : Int) + 1 + 1) = (n : Int) + 1 + 1 := IntWalk.u64_in _ (by omega)
  rw [h1]
  have h2 := Int.tmod_lt_of_pos m (b := 7) (by omega)
  have h3 := Int.tmod_nonneg 7 h0
  rw [IntWalk.u64_in _ (by omega)]
  omega
theorem data_inj (a b : ByteArray) : a.data = b.data ↔ a = b := ⟨fun h => by cases a; cases b; simp at h; rw [h], fun h => by rw [h]⟩
def ApRel (G : Env) (b c : Nat) (s : ByteArray) (R : HP) (len : Nat) (i : Value) (w : World) : Prop := ∃ (k : Nat) (M N : Model), i = .int .i64 k ∧ k ≤ len ∧ Inv (2 * k) M ∧ Inv (2 * k) N ∧ getM M s = getM N s ∧ Sat G w (strHP b M * (strHP c N * R))
set_option maxRecDepth 100000 in
set_option maxHeartbeats 8000000 in
theorem StreamApart_walk (W : World) (v : Value) (ops : List OpM) (h : (rdK opK 9 v ops).p (fr W)) (hl : ops.length * 96 ≤ 140737488351232) (s : ByteArray) (hs : s.size ≤ 140737488351232) :
    Calls Try.prog 5 #[v, .string s] W fun e w' => e = .returned (.bool true) ∧ Below W.heap.size W w' := by
  have hW := Sat.ro_mk W
  generalize hG : env W = G at hW
  generalize hF : fr W = F at h hW
  obtain ⟨A0, c0, rfl, hc0, _, _⟩ := id h
  have HA := Lib.hid h
  have HW := Lib.hid hW.add
  have HG := Lib.hid hG
  have HF := Lib.hid hF
  clear h hW hG hF
  go_enter Try.func5, Try.ntmps5
  go_wp2_with fail
  refine (awake_spec HW.out).mono ?_
  intro e w1 hr
  obtain ⟨rfl, h1⟩ := Ret.un hr
  have hm := much_spec (w := w1) _ ops ((rdK opK 9 _ ops).up _ _ h1.ro HA.out) hl
  have H1 := Lib.hid h1
  have HM := Lib.hid hm
  clear hr h1 hm
  go_wp2_with fail
  refine HM.out.mono ?_
  rintro e w2 ⟨r, rfl, hlim, n, rfl⟩
  have H1 := Lib.hid (H1.out.drewN n)
  have HL := Lib.hid hlim
  clear hlim
  cases r with
  | true =>
    go_wp2
    go_ret
    have := H1.out
    rw [← HG.out, ← HF.out] at this
    exact ⟨rfl, this.belowOf⟩
  | false =>
    obtain ⟨hlen, htot⟩ := HL.out rfl
    go_wp2_with fail
    refine (New_calls H1.out).mono ?_
    rintro e w3 ⟨b, rfl, h3⟩
    have H3 := Lib.hid h3
    clear h3
    go_wp2_with fail
    refine (New_calls H3.out).mono ?_
    rintro e w4 ⟨c, rfl, h4⟩
    have H4 := Lib.hid (h4.ac (B := strHP b [] * (strHP c [] * (ro F * emp))) (by ac_rfl))
    clear h4
    go_wp2_with fail
    go_loopw [8] (fun i wr => ApRel G b c s (ro F * emp) ops.length i wr) (fun i _ => ops.length - (intOf i).toNat)
    case atStart => exact ⟨0, [], [], rfl, Nat.zero_le _, Inv.nil, Inv.nil, rfl, H4.out⟩
    case round =>
      obtain ⟨k, M, N, rfl, hk, hI, hJ, hMN, hS⟩ := hrel
      by_cases hlt : k < ops.length
      · have hF := hS.right.right.ro
        have hA' : (rdK opK 9 (.slice A0 ops.length c0) ops).p (fr W) := by rw [HF.out]; exact HA.out
        obtain ⟨ad, _, A, d, e0, _, p9, q0, q1, q2, q3, q4, q5, q6, q7, q8, pr, pb⟩ := op_read hA' k hlt
        cases e0
        have hFF : Frag.le (fr W) (fr wr) := by rw [HF.out]; exact hF
        generalize hek : ops[k] = o at *
        have p0 : wr.cell? (ad.add (k * 9)) = some (.int .i64 o.kind) := fcell_le hFF q0
        have p1 : wr.cell? ⟨(ad.add (k * 9)).block, (ad.add (k * 9)).off + 1, none⟩ = some (.int .i64 o.who) := fcell_le hFF q1
        have p2 : wr.cell? ⟨(ad.add (k * 9)).block, (ad.add (k * 9)).off + 2, none⟩ = some (.string o.name) := fcell_le hFF q2
        have p3 : wr.cell? ⟨(ad.add (k * 9)).block, (ad.add (k * 9)).off + 3, none⟩ = some (.int .u64 o.more) := fcell_le hFF q3
        have p4 : wr.cell? ⟨(ad.add (k * 9)).block, (ad.add (k * 9)).off + 4, none⟩ = some (.int .u64 o.e.num) := fcell_le hFF q4
        have p5 : wr.cell? ⟨(ad.add (k * 9)).block, (ad.add (k * 9)).off + 5, none⟩ = some (.int .i64 o.e.typ) := fcell_le hFF q5
        have p6 : wr.cell? ⟨(ad.add (k * 9)).block, (ad.add (k * 9)).off + 6, none⟩ = some (.int .i64 o.e.ver) := fcell_le hFF q6
        have p7 : wr.cell? ⟨(ad.add (k * 9)).block, (ad.add (k * 9)).off + 7, none⟩ = some (.slice A o.e.data.length d) := fcell_le hFF q7
        have p8 : wr.cell? ⟨(ad.add (k * 9)).block, (ad.add (k * 9)).off + 8, none⟩ = some (.int .i64 o.typ) := fcell_le hFF q8
        rw [HF.out] at pr
        clear q0 q1 q2 q3 q4 q5 q6 q7 q8 hFF hA' hF
        have hlt' : k < 2000 := by omega
        have hb := hS.alloc (.cells (boxCells o o.name (.slice A o.e.data.length d)) 36)
        obtain ⟨g1, g2, g3⟩ := getM_ok hI s
        obtain ⟨g1o, g2o, g3o⟩ := getM_ok hI o.name
        have hn2 := pb.dlen
        have gg1 : (getM M s).length ≤ 1048576 := by omega
        have gg2 : (getM M s).length ≤ 4000 := by omega
        have ggo : (getM M o.name).length ≤ 1048576 := by omega
        have PB := Lib.hid pb
        have PR := Lib.hid pr
        have HI := Lib.hid hI
        have HJ := Lib.hid hJ
        have HMN := Lib.hid hMN
        have HS := Lib.hid hb
        clear pr pb hS hb hI hJ g2 g3 g1 g2o g3o g1o hMN
        by_cases hkind : o.kind = 1
        · have hkb : (o.kind == 1) = true := by simp [hkind]
          by_cases hnm : o.name = s
          · have hb1 : (o.name.data.toList == s.data.toList) = true := by simp [hnm]
            have hb2 : (o.name.toList == s.toList) = true := by simp [hnm]
            have HNM := Lib.hid hnm
            have HK := Lib.hid hkind
            clear hnm hkind
            go_wp2_with fail
            generalize wr.heap.size = B0 at *
            obtain ⟨s0, s2, s3, s4, s5, s6, s7, s8⟩ := boxA_held HS.out
            have HT := Lib.hid (HS.out.ac (B := strHP b M * (blk B0 (.cells (boxCells o o.name (.slice A o.e.data.length d)) 36) * (strHP c N * (ro F * emp)))) (by ac_rfl))
            generalize wr.alloc _ = wb at *
            have PR1 := Lib.hid ((rd 1 _ _ _).up _ _ (HS.out.right.right.right.ro) PR.out)
            go_region_held3 (fun w' => w'.cell? ⟨B0, 0, none⟩ = some (.int .i64 o.kind) ∧ w'.cell? ⟨B0, 2, none⟩ = some (.string o.name) ∧ w'.cell? ⟨B0, 3, none⟩ = some (.int .u64 o.more) ∧ w'.cell? ⟨B0, 4, none⟩ = some (.int .u64 o.e.num) ∧ w'.cell? ⟨B0, 5, none⟩ = some (.int .i64 o.e.typ) ∧ w'.cell? ⟨B0, 6, none⟩ = some (.int .i64 o.e.ver) ∧ w'.cell? ⟨B0, 7, none⟩ = some (.slice A o.e.data.length d) ∧ w'.cell? ⟨B0, 8, none⟩ = some (.int .i64 o.typ))
              (first
                | exact ⟨s0, s2, s3, s4, s5, s6, s7, s8⟩
                | exact boxA_held HS.out.drew
                | exact boxA_held hx.right)
              (first
                | (go_at_call 15; refine (Next_L _ (HS.out.drew).right rfl).mono ?_; rintro e w' ⟨rfl, rfl⟩)
                | (go_at_call 13; refine (Add_L b s _ _ _ _ _ o.e.data HT.out.drew rfl PR1.out PB.out.bytes (by omega) gg1).mono ?_; rintro e w' ⟨rfl, hx⟩))
            clear s0 s2 s3 s4 s5 s6 s7 s8
            obtain ⟨s0, s2, s3, s4, s5, s6, s7, s8⟩ := boxA_held hx.right
            have hy := hx.ac (B := strHP c N * (blk B0 (.cells (boxCells o o.name (.slice A o.e.data.length d)) 36) * (strHP b (addM M s (IntKind.u64.wrap (↑(getM M s).length + 1 + o.more)) o.e.typ o.e.ver o.e.data) * (ro F * emp)))) (by ac_rfl)
            have PR2 := Lib.hid ((rd 1 _ _ _).up _ _ (hx.right.right.right.ro) PR.out)
            have HT2 := Lib.hid hy
            generalize hx2 : IntKind.u64.wrap (↑(getM M s).length + 1 + o.more) = x2 at *
            clear hx hy HT HS
            go_wp2_with fail
            go_region_held3 (fun w' => w'.cell? ⟨B0, 0, none⟩ = some (.int .i64 o.kind) ∧ w'.cell? ⟨B0, 2, none⟩ = some (.string o.name) ∧ w'.cell? ⟨B0, 3, none⟩ = some (.int .u64 o.more) ∧ w'.cell? ⟨B0, 4, none⟩ = some (.int .u64 o.e.num) ∧ w'.cell? ⟨B0, 5, none⟩ = some (.int .i64 o.e.typ) ∧ w'.cell? ⟨B0, 6, none⟩ = some (.int .i64 o.e.ver) ∧ w'.cell? ⟨B0, 7, none⟩ = some (.slice A o.e.data.length d) ∧ w'.cell? ⟨B0, 8, none⟩ = some (.int .i64 o.typ))
              (first
                | exact ⟨s0, s2, s3, s4, s5, s6, s7, s8⟩
                | exact boxA_held HT2.out.drew.right
                | exact boxA_held hz.right)
              (first
                | (go_at_call 15; refine (Next_L _ (HT2.out.drew) HMN.out.symm).mono ?_; rintro e w' ⟨rfl, rfl⟩)
                | (go_at_call 13; refine (Add_L c s _ _ _ _ _ o.e.data HT2.out.drew HMN.out.symm PR2.out PB.out.bytes (by omega) gg1).mono ?_; rintro e w' ⟨rfl, hz⟩))
            go_wp2
            exact ⟨⟨k + 1, addM M s x2 o.e.typ o.e.ver o.e.data, addM N s x2 o.e.typ o.e.ver o.e.data, by simp, hlt, (addM_ok HI.out _ _ _ _ _ PB.out.dlen PB.out.bytes).up, (addM_ok HJ.out _ _ _ _ _ PB.out.dlen PB.out.bytes).up, by rw [getM_add_same, getM_add_same, HMN.out], (hz.ac (B := strHP b (addM M s x2 o.e.typ o.e.ver o.e.data) * (strHP c (addM N s x2 o.e.typ o.e.ver o.e.data) * (ro F * emp)) * blk B0 (.cells (boxCells o o.name (.slice A o.e.data.length d)) 36)) (by ac_rfl)).left⟩, by simp [intOf]; omega⟩
          · have hb1 : (o.name.data.toList == s.data.toList) = false := by simpa [data_inj] using hnm
            have hb2 : (o.name.toList == s.toList) = false := by rw [ByteArray.toList_eq, ByteArray.toList_eq]; exact hb1
            have HNM := Lib.hid hnm
            have HK := Lib.hid hkind
            clear hnm hkind
            go_wp2_with fail
            refine (Next_L _ (HS.out.right) rfl).mono ?_
            rintro e w' ⟨rfl, rfl⟩
            go_wp2_with fail
            generalize wr.heap.size = B0 at *
            obtain ⟨s0, s2, s3, s4, s5, s6, s7, s8⟩ := boxA_held HS.out
            have HT := Lib.hid (HS.out.ac (B := strHP b M * (blk B0 (.cells (boxCells o o.name (.slice A o.e.data.length d)) 36) * (strHP c N * (ro F * emp)))) (by ac_rfl))
            generalize wr.alloc _ = wb at *
            have PR1 := Lib.hid ((rd 1 _ _ _).up _ _ (HS.out.right.right.right.ro) PR.out)
            go_region_held3 (fun w' => w'.cell? ⟨B0, 0, none⟩ = some (.int .i64 o.kind) ∧ w'.cell? ⟨B0, 2, none⟩ = some (.string o.name) ∧ w'.cell? ⟨B0, 3, none⟩ = some (.int .u64 o.more) ∧ w'.cell? ⟨B0, 4, none⟩ = some (.int .u64 o.e.num) ∧ w'.cell? ⟨B0, 5, none⟩ = some (.int .i64 o.e.typ) ∧ w'.cell? ⟨B0, 6, none⟩ = some (.int .i64 o.e.ver) ∧ w'.cell? ⟨B0, 7, none⟩ = some (.slice A o.e.data.length d) ∧ w'.cell? ⟨B0, 8, none⟩ = some (.int .i64 o.typ))
              (first
                | exact ⟨s0, s2, s3, s4, s5, s6, s7, s8⟩
                | exact boxA_held HS.out.drew
                | exact boxA_held hx.right)
              (first
                | (go_at_call 15; refine (Next_L _ (HS.out.drew).right rfl).mono ?_; rintro e w' ⟨rfl, rfl⟩)
                | (go_at_call 13; refine (Add_L b o.name _ _ _ _ _ o.e.data HT.out.drew rfl PR1.out PB.out.bytes (by omega) ggo).mono ?_; rintro e w' ⟨rfl, hx⟩))
            clear s0 s2 s3 s4 s5 s6 s7 s8
            have hI1 := addM_ok HI.out o.name (↑(getM M o.name).length + 1) o.e.typ o.e.ver o.e.data PB.out.dlen PB.out.bytes
            have hg1 : getM (addM M o.name (↑(getM M o.name).length + 1) o.e.typ o.e.ver o.e.data) s = getM M s := getM_add_other _ _ _ _ _ (fun e => HNM.out e.symm)
            generalize addM M o.name (↑(getM M o.name).length + 1) o.e.typ o.e.ver o.e.data = M1 at *
            have HG1 := Lib.hid hg1
            obtain ⟨L1, hL1, hLL⟩ : ∃ L1, getM M1 s = L1 ∧ getM M s = L1 := ⟨_, rfl, hg1.symm⟩
            clear hg1
            have HMN1 := Lib.hid (hLL.symm.trans HMN.out)
            rw [hLL] at *
            obtain ⟨l1, l2, l3⟩ := getM_ok hI1 s
            obtain ⟨n1, n2, n3⟩ := getM_ok hI1 o.name
            rw [hL1] at l1
            have ll1 : L1.length ≤ 4001 := by omega
            have ll2 : L1.length ≤ 1048576 := by omega
            have ln2 : (getM M1 o.name).length ≤ 1048576 := by omega
            have HL1 := Lib.hid hL1
            have HN2 := Lib.hid n2
            have HI1 := Lib.hid hI1
            obtain ⟨s0, s2, s3, s4, s5, s6, s7, s8⟩ := boxA_held hx.right
            have hy := hx
            have HX := Lib.hid hx
            have PR2 := Lib.hid ((rd 1 _ _ _).up _ _ (hx.right.right.right.ro) PR.out)
            clear hx hy HT HS l1 l2 l3 n1 n2 n3 hL1 hI1
            go_wp2_with fail
            go_region_held3 (fun w' => w'.cell? ⟨B0, 0, none⟩ = some (.int .i64 o.kind) ∧ w'.cell? ⟨B0, 2, none⟩ = some (.string o.name) ∧ w'.cell? ⟨B0, 3, none⟩ = some (.int .u64 o.more) ∧ w'.cell? ⟨B0, 4, none⟩ = some (.int .u64 o.e.num) ∧ w'.cell? ⟨B0, 5, none⟩ = some (.int .i64 o.e.typ) ∧ w'.cell? ⟨B0, 6, none⟩ = some (.int .i64 o.e.ver) ∧ w'.cell? ⟨B0, 7, none⟩ = some (.slice A o.e.data.length d) ∧ w'.cell? ⟨B0, 8, none⟩ = some (.int .i64 o.typ))
              (first
                | exact ⟨s0, s2, s3, s4, s5, s6, s7, s8⟩
                | exact boxA_held HX.out.drew.right
                | exact boxA_held hz.right)
              (first
                | (go_at_call 15; refine (Next_L _ (HX.out.drew) HL1.out).mono ?_; rintro e w' ⟨rfl, rfl⟩)
                | (go_at_call 13; refine (Add_L b s _ _ _ _ _ o.e.data HX.out.drew HL1.out PR2.out PB.out.bytes (by omega) ll2).mono ?_; rintro e w' ⟨rfl, hz⟩))
            rw [add_refused _ _ _ _ _ _ (by rw [HL1.out]; exact far_num ll1 PB.out.more.1)] at hz
            have HZ := Lib.hid hz
            clear hz s0 s2 s3 s4 s5 s6 s7 s8 HX PR2
            generalize IntKind.u64.wrap (IntKind.u64.wrap (↑L1.length + 1 + 1) + o.more.tmod 7) = x17 at *
            obtain ⟨s0, s2, s3, s4, s5, s6, s7, s8⟩ := boxA_held HZ.out.right
            go_wp2_with fail
            refine (Events_spec o.name o.typ HZ.out (fun e he => by have := (HN2.out e he).1; omega) ln2).mono ?_
            rintro e w5 ⟨va, rfl, h5⟩
            have h6 := h5.right
            have h7 := h6.ac (B := blk B0 (.cells (boxCells o o.name (.slice A o.e.data.length d)) 36) * (strHP b M1 * (strHP c N * (ro F * emp)))) (by ac_rfl)
            clear s0 s2 s3 s4 s5 s6 s7 s8
            obtain ⟨s0, s2, s3, s4, s5, s6, s7, s8⟩ := boxA_held h7
            have PR3 := Lib.hid ((rd 1 _ _ _).up _ _ (h7.right.right.right.ro) PR.out)
            have H6 := Lib.hid h6
            have H7 := Lib.hid h7
            clear h5 h6 h7
            go_wp2_with fail
            refine (Next_L _ (H7.out.right) HL1.out).mono ?_
            rintro e w' ⟨rfl, rfl⟩
            go_wp2
            exact ⟨⟨k + 1, M1, N, by simp, hlt, HI1.out.up, HJ.out.up.up, by rw [HL1.out]; exact HMN1.out, H7.out.right⟩, by simp [intOf]; omega⟩
        · have hkb : (o.kind == 1) = false := by simp [hkind]
          by_cases hnm : o.name = s
          · have hb1 : (o.name.data.toList == s.data.toList) = true := by simp [hnm]
            have hb2 : (o.name.toList == s.toList) = true := by simp [hnm]
            have HNM := Lib.hid hnm
            have HK := Lib.hid hkind
            clear hnm hkind
            go_wp2_with fail
            refine (Next_L _ (HS.out.right) rfl).mono ?_
            rintro e w' ⟨rfl, rfl⟩
            go_wp2_with fail
            generalize wr.heap.size = B0 at *
            obtain ⟨s0, s2, s3, s4, s5, s6, s7, s8⟩ := boxA_held HS.out
            have HT := Lib.hid (HS.out.ac (B := strHP b M * (blk B0 (.cells (boxCells o o.name (.slice A o.e.data.length d)) 36) * (strHP c N * (ro F * emp)))) (by ac_rfl))
            generalize wr.alloc _ = wb at *
            have PR1 := Lib.hid ((rd 1 _ _ _).up _ _ (HS.out.right.right.right.ro) PR.out)
            go_region_held3 (fun w' => w'.cell? ⟨B0, 0, none⟩ = some (.int .i64 o.kind) ∧ w'.cell? ⟨B0, 2, none⟩ = some (.string o.name) ∧ w'.cell? ⟨B0, 3, none⟩ = some (.int .u64 o.more) ∧ w'.cell? ⟨B0, 4, none⟩ = some (.int .u64 o.e.num) ∧ w'.cell? ⟨B0, 5, none⟩ = some (.int .i64 o.e.typ) ∧ w'.cell? ⟨B0, 6, none⟩ = some (.int .i64 o.e.ver) ∧ w'.cell? ⟨B0, 7, none⟩ = some (.slice A o.e.data.length d) ∧ w'.cell? ⟨B0, 8, none⟩ = some (.int .i64 o.typ))
              (first
                | exact ⟨s0, s2, s3, s4, s5, s6, s7, s8⟩
                | exact boxA_held HS.out.drew
                | exact boxA_held hx.right)
              (first
                | (go_at_call 15; refine (Next_L _ (HS.out.drew).right rfl).mono ?_; rintro e w' ⟨rfl, rfl⟩)
                | (go_at_call 13; refine (Add_L b o.name _ _ _ _ _ o.e.data HT.out.drew rfl PR1.out PB.out.bytes (by omega) ggo).mono ?_; rintro e w' ⟨rfl, hx⟩))
            clear s0 s2 s3 s4 s5 s6 s7 s8
            have hI1 := addM_ok HI.out o.name (↑(getM M o.name).length + 1) o.e.typ o.e.ver o.e.data PB.out.dlen PB.out.bytes
            have hg1 : getM (addM M o.name (↑(getM M o.name).length + 1) o.e.typ o.e.ver o.e.data) s = addL (getM M s) s (↑(getM M s).length + 1) o.e.typ o.e.ver o.e.data := by rw [HNM.out]; exact getM_add_same _ _ _ _ _ _
            generalize addM M o.name (↑(getM M o.name).length + 1) o.e.typ o.e.ver o.e.data = M1 at *
            have HG1 := Lib.hid hg1
            clear hg1
            obtain ⟨L1, hL1⟩ : ∃ L1, getM M1 s = L1 := ⟨_, rfl⟩
            obtain ⟨l1, l2, l3⟩ := getM_ok hI1 s
            obtain ⟨n1, n2, n3⟩ := getM_ok hI1 o.name
            rw [hL1] at l1
            have ll1 : L1.length ≤ 4001 := by omega
            have ll2 : L1.length ≤ 1048576 := by omega
            have ln2 : (getM M1 o.name).length ≤ 1048576 := by omega
            have HL1 := Lib.hid hL1
            have HN2 := Lib.hid n2
            have HI1 := Lib.hid hI1
            obtain ⟨s0, s2, s3, s4, s5, s6, s7, s8⟩ := boxA_held hx.right
            have hy := hx
            have HX := Lib.hid hx
            have PR2 := Lib.hid ((rd 1 _ _ _).up _ _ (hx.right.right.right.ro) PR.out)
            clear hx hy HT HS l1 l2 l3 n1 n2 n3 hL1 hI1
            go_wp2_with fail
            go_region_held3 (fun w' => w'.cell? ⟨B0, 0, none⟩ = some (.int .i64 o.kind) ∧ w'.cell? ⟨B0, 2, none⟩ = some (.string o.name) ∧ w'.cell? ⟨B0, 3, none⟩ = some (.int .u64 o.more) ∧ w'.cell? ⟨B0, 4, none⟩ = some (.int .u64 o.e.num) ∧ w'.cell? ⟨B0, 5, none⟩ = some (.int .i64 o.e.typ) ∧ w'.cell? ⟨B0, 6, none⟩ = some (.int .i64 o.e.ver) ∧ w'.cell? ⟨B0, 7, none⟩ = some (.slice A o.e.data.length d) ∧ w'.cell? ⟨B0, 8, none⟩ = some (.int .i64 o.typ))
              (first
                | exact ⟨s0, s2, s3, s4, s5, s6, s7, s8⟩
                | exact boxA_held HX.out.drew.right
                | exact boxA_held hz.right)
              (first
                | (go_at_call 15; refine (Next_L _ (HX.out.drew) HL1.out).mono ?_; rintro e w' ⟨rfl, rfl⟩)
                | (go_at_call 13; refine (Add_L b s _ _ _ _ _ o.e.data HX.out.drew HL1.out PR2.out PB.out.bytes (by omega) ll2).mono ?_; rintro e w' ⟨rfl, hz⟩))
            rw [add_refused _ _ _ _ _ _ (by rw [HL1.out]; exact far_num ll1 PB.out.more.1)] at hz
            have HZ := Lib.hid hz
            clear hz s0 s2 s3 s4 s5 s6 s7 s8 HX PR2
            generalize IntKind.u64.wrap (IntKind.u64.wrap (↑L1.length + 1 + 1) + o.more.tmod 7) = x17 at *
            obtain ⟨s0, s2, s3, s4, s5, s6, s7, s8⟩ := boxA_held HZ.out.right
            go_wp2_with fail
            refine (Events_spec o.name o.typ HZ.out (fun e he => by have := (HN2.out e he).1; omega) ln2).mono ?_
            rintro e w5 ⟨va, rfl, h5⟩
            have h6 := h5.right
            have h7 := h6.ac (B := blk B0 (.cells (boxCells o o.name (.slice A o.e.data.length d)) 36) * (strHP b M1 * (strHP c N * (ro F * emp)))) (by ac_rfl)
            clear s0 s2 s3 s4 s5 s6 s7 s8
            obtain ⟨s0, s2, s3, s4, s5, s6, s7, s8⟩ := boxA_held h7
            have PR3 := Lib.hid ((rd 1 _ _ _).up _ _ (h7.right.right.right.ro) PR.out)
            have H6 := Lib.hid h6
            have H7 := Lib.hid h7
            clear h5 h6 h7
            have H8 := Lib.hid (H7.out.ac (B := strHP c N * (blk B0 (.cells (boxCells o o.name (.slice A o.e.data.length d)) 36) * (strHP b M1 * (ro F * emp)))) (by ac_rfl))
            clear H6
            go_wp2_with fail
            go_region_held3 (fun w' => w'.cell? ⟨B0, 0, none⟩ = some (.int .i64 o.kind) ∧ w'.cell? ⟨B0, 2, none⟩ = some (.string o.name) ∧ w'.cell? ⟨B0, 3, none⟩ = some (.int .u64 o.more) ∧ w'.cell? ⟨B0, 4, none⟩ = some (.int .u64 o.e.num) ∧ w'.cell? ⟨B0, 5, none⟩ = some (.int .i64 o.e.typ) ∧ w'.cell? ⟨B0, 6, none⟩ = some (.int .i64 o.e.ver) ∧ w'.cell? ⟨B0, 7, none⟩ = some (.slice A o.e.data.length d) ∧ w'.cell? ⟨B0, 8, none⟩ = some (.int .i64 o.typ))
              (first
                | exact ⟨s0, s2, s3, s4, s5, s6, s7, s8⟩
                | exact boxA_held H7.out.drew
                | exact boxA_held hz.right)
              (first
                | (go_at_call 15; refine (Next_L _ (H8.out.drew) HMN.out.symm).mono ?_; rintro e w' ⟨rfl, rfl⟩)
                | (go_at_call 13; refine (Add_L c s _ _ _ _ _ o.e.data H8.out.drew HMN.out.symm PR3.out PB.out.bytes (by omega) gg1).mono ?_; rintro e w' ⟨rfl, hz⟩))
            go_wp2
            exact ⟨⟨k + 1, M1, addM N s (↑(getM M s).length + 1) o.e.typ o.e.ver o.e.data, by simp, hlt, HI1.out.up, (addM_ok HJ.out _ _ _ _ _ PB.out.dlen PB.out.bytes).up, by rw [HG1.out, getM_add_same, HMN.out], (hz.ac (B := strHP b M1 * (strHP c (addM N s (↑(getM M s).length + 1) o.e.typ o.e.ver o.e.data) * (ro F * emp)) * blk B0 (.cells (boxCells o o.name (.slice A o.e.data.length d)) 36)) (by ac_rfl)).left⟩, by simp [intOf]; omega⟩
          · have hb1 : (o.name.data.toList == s.data.toList) = false := by simpa [data_inj] using hnm
            have hb2 : (o.name.toList == s.toList) = false := by rw [ByteArray.toList_eq, ByteArray.toList_eq]; exact hb1
            have HNM := Lib.hid hnm
            have HK := Lib.hid hkind
            clear hnm hkind
            go_wp2_with fail
            refine (Next_L _ (HS.out.right) rfl).mono ?_
            rintro e w' ⟨rfl, rfl⟩
            go_wp2_with fail
            generalize wr.heap.size = B0 at *
            obtain ⟨s0, s2, s3, s4, s5, s6, s7, s8⟩ := boxA_held HS.out
            have HT := Lib.hid (HS.out.ac (B := strHP b M * (blk B0 (.cells (boxCells o o.name (.slice A o.e.data.length d)) 36) * (strHP c N * (ro F * emp)))) (by ac_rfl))
            generalize wr.alloc _ = wb at *
            have PR1 := Lib.hid ((rd 1 _ _ _).up _ _ (HS.out.right.right.right.ro) PR.out)
            go_region_held3 (fun w' => w'.cell? ⟨B0, 0, none⟩ = some (.int .i64 o.kind) ∧ w'.cell? ⟨B0, 2, none⟩ = some (.string o.name) ∧ w'.cell? ⟨B0, 3, none⟩ = some (.int .u64 o.more) ∧ w'.cell? ⟨B0, 4, none⟩ = some (.int .u64 o.e.num) ∧ w'.cell? ⟨B0, 5, none⟩ = some (.int .i64 o.e.typ) ∧ w'.cell? ⟨B0, 6, none⟩ = some (.int .i64 o.e.ver) ∧ w'.cell? ⟨B0, 7, none⟩ = some (.slice A o.e.data.length d) ∧ w'.cell? ⟨B0, 8, none⟩ = some (.int .i64 o.typ))
              (first
                | exact ⟨s0, s2, s3, s4, s5, s6, s7, s8⟩
                | exact boxA_held HS.out.drew
                | exact boxA_held hx.right)
              (first
                | (go_at_call 15; refine (Next_L _ (HS.out.drew).right rfl).mono ?_; rintro e w' ⟨rfl, rfl⟩)
                | (go_at_call 13; refine (Add_L b o.name _ _ _ _ _ o.e.data HT.out.drew rfl PR1.out PB.out.bytes (by omega) ggo).mono ?_; rintro e w' ⟨rfl, hx⟩))
            clear s0 s2 s3 s4 s5 s6 s7 s8
            have hI1 := addM_ok HI.out o.name (↑(getM M o.name).length + 1) o.e.typ o.e.ver o.e.data PB.out.dlen PB.out.bytes
            have hg1 : getM (addM M o.name (↑(getM M o.name).length + 1) o.e.typ o.e.ver o.e.data) s = getM M s := getM_add_other _ _ _ _ _ (fun e => HNM.out e.symm)
            generalize addM M o.name (↑(getM M o.name).length + 1) o.e.typ o.e.ver o.e.data = M1 at *
            have HG1 := Lib.hid hg1
            obtain ⟨L1, hL1, hLL⟩ : ∃ L1, getM M1 s = L1 ∧ getM M s = L1 := ⟨_, rfl, hg1.symm⟩
            clear hg1
            have HMN1 := Lib.hid (hLL.symm.trans HMN.out)
            rw [hLL] at *
            obtain ⟨l1, l2, l3⟩ := getM_ok hI1 s
            obtain ⟨n1, n2, n3⟩ := getM_ok hI1 o.name
            rw [hL1] at l1
            have ll1 : L1.length ≤ 4001 := by omega
            have ll2 : L1.length ≤ 1048576 := by omega
            have ln2 : (getM M1 o.name).length ≤ 1048576 := by omega
            have HL1 := Lib.hid hL1
            have HN2 := Lib.hid n2
            have HI1 := Lib.hid hI1
            obtain ⟨s0, s2, s3, s4, s5, s6, s7, s8⟩ := boxA_held hx.right
            have hy := hx
            have HX := Lib.hid hx
            have PR2 := Lib.hid ((rd 1 _ _ _).up _ _ (hx.right.right.right.ro) PR.out)
            clear hx hy HT HS l1 l2 l3 n1 n2 n3 hL1 hI1
            go_wp2_with fail
            go_region_held3 (fun w' => w'.cell? ⟨B0, 0, none⟩ = some (.int .i64 o.kind) ∧ w'.cell? ⟨B0, 2, none⟩ = some (.string o.name) ∧ w'.cell? ⟨B0, 3, none⟩ = some (.int .u64 o.more) ∧ w'.cell? ⟨B0, 4, none⟩ = some (.int .u64 o.e.num) ∧ w'.cell? ⟨B0, 5, none⟩ = some (.int .i64 o.e.typ) ∧ w'.cell? ⟨B0, 6, none⟩ = some (.int .i64 o.e.ver) ∧ w'.cell? ⟨B0, 7, none⟩ = some (.slice A o.e.data.length d) ∧ w'.cell? ⟨B0, 8, none⟩ = some (.int .i64 o.typ))
              (first
                | exact ⟨s0, s2, s3, s4, s5, s6, s7, s8⟩
                | exact boxA_held HX.out.drew.right
                | exact boxA_held hz.right)
              (first
                | (go_at_call 15; refine (Next_L _ (HX.out.drew) HL1.out).mono ?_; rintro e w' ⟨rfl, rfl⟩)
                | (go_at_call 13; refine (Add_L b s _ _ _ _ _ o.e.data HX.out.drew HL1.out PR2.out PB.out.bytes (by omega) ll2).mono ?_; rintro e w' ⟨rfl, hz⟩))
            rw [add_refused _ _ _ _ _ _ (by rw [HL1.out]; exact far_num ll1 PB.out.more.1)] at hz
            have HZ := Lib.hid hz
            clear hz s0 s2 s3 s4 s5 s6 s7 s8 HX PR2
            generalize IntKind.u64.wrap (IntKind.u64.wrap (↑L1.length + 1 + 1) + o.more.tmod 7) = x17 at *
            obtain ⟨s0, s2, s3, s4, s5, s6, s7, s8⟩ := boxA_held HZ.out.right
            go_wp2_with fail
            refine (Events_spec o.name o.typ HZ.out (fun e he => by have := (HN2.out e he).1; omega) ln2).mono ?_
            rintro e w5 ⟨va, rfl, h5⟩
            have h6 := h5.right
            have h7 := h6.ac (B := blk B0 (.cells (boxCells o o.name (.slice A o.e.data.length d)) 36) * (strHP b M1 * (strHP c N * (ro F * emp)))) (by ac_rfl)
            clear s0 s2 s3 s4 s5 s6 s7 s8
            obtain ⟨s0, s2, s3, s4, s5, s6, s7, s8⟩ := boxA_held h7
            have PR3 := Lib.hid ((rd 1 _ _ _).up _ _ (h7.right.right.right.ro) PR.out)
            have H6 := Lib.hid h6
            have H7 := Lib.hid h7
            clear h5 h6 h7
            go_wp2_with fail
            refine (Next_L _ (H7.out.right) HL1.out).mono ?_
            rintro e w' ⟨rfl, rfl⟩
            go_wp2
            exact ⟨⟨k + 1, M1, N, by simp, hlt, HI1.out.up, HJ.out.up.up, by rw [HL1.out]; exact HMN1.out, H7.out.right⟩, by simp [intOf]; omega⟩
      · obtain ⟨g1, g2, g3⟩ := getM_ok hI s
        have G2 := Lib.hid g2
        have gg : (getM M s).length ≤ 1048576 := by omega
        have HS := Lib.hid hS
        have HMN := Lib.hid hMN
        clear hS hI hJ g2 g3 hMN
        go_wp2_with fail
        refine (Events_spec s (-1) HS.out (fun e he => by have := (G2.out e he).1; omega) gg).mono ?_
        rintro e w5 ⟨va, rfl, h5⟩
        rw [want_all] at h5
        have h5' := h5.ac (B := strHP c N * (evsHP va (getM M s) * (strHP b M * (ro F * emp)))) (by ac_rfl)
        have H5 := Lib.hid h5'
        clear h5 h5'
        go_wp2_with fail
        refine (Events_spec s (-1) H5.out (fun e he => by rw [← HMN.out] at he; have := (G2.out e he).1; omega) (by rw [← HMN.out]; exact gg)).mono ?_
        rintro e w6 ⟨vb, rfl, h6⟩
        rw [want_all, ← HMN.out] at h6
        have hsm := same_spec va vb _ _ (rdEvs_of_own (star_left h6.right.right.2)) (rdEvs_of_own (star_left h6.2)) (by omega) (by omega)
        have H6 := Lib.hid h6.right
        have H7 := Lib.hid (h6.right.right.right)
        have HSM := Lib.hid hsm
        clear h6 hsm
        go_wp2_with fail
        refine HSM.out.mono ?_
        rintro e w7 ⟨rfl, nq, rfl⟩
        simp only [decide_true]
        go_wp2_with fail
        refine (Next_L _ (H7.out.drewN nq) rfl).mono ?_
        rintro e w' ⟨rfl, rfl⟩
        go_wp2_with fail
        refine (Next_L _ (H6.out.drewN nq) HMN.out.symm).mono ?_
        rintro e w' ⟨rfl, rfl⟩
        have hbel := H7.out.right
        rw [← HG.out, ← HF.out] at hbel
        have HBE := Lib.hid (Sat.belowOf (hbel.drewN nq))
        clear hbel
        go_wp2
        go_ret
        exact ⟨rfl, HBE.out⟩
end Go.Proofs.Ytnjalbgcmgmmeaa
