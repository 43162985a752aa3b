/- (*Streams).Events over the model's worlds. Conditions: none. -/
import Derived.Test.YtnjalbgcmgmmeaaSt
import Derived.Deep.LoopGhost
namespace Go.Proofs.Ytnjalbgcmgmmeaa
open Go.RowKit Sl Go.MapKept

def want (typ : Int) (e : Ev) : Bool := decide (typ < 0) || decide (e.typ = typ)
def EvRel (G : Env) (X : HP) (typ : Int) (l : List Ev) (v i : Value) (w : World) : Prop := ∃ k : Nat, k ≤ l.length ∧ i = .int .i64 k ∧ Sat G w (evsHP v ((l.take k).filter (want typ)) * X)
theorem ev_len {e : Ev} {cs : List Value} {h : Frag} (x : (evHP e cs).p h) : cs.length = 4 := by
  obtain ⟨dv, x⟩ := x
  have := ((star_pu _ _ _).1 x).1.1
  rw [this]; rfl
theorem evs_lens {l : List Ev} {css : List (List Value)} {h : Frag} (x : (listHP evHP l css).p h) : ∀ cs ∈ css, cs.length = 4 := by
  intro cs hcs
  obtain ⟨i, hi, rfl⟩ := List.getElem_of_mem hcs
  have hl := listHP_len x
  obtain ⟨b, hb, hE⟩ := listHP_get x (List.getElem?_eq_getElem (show i < l.length by omega))
  rw [List.getElem?_eq_getElem hi] at hb
  cases hb
  exact ev_len hE
/-- What is read of event k. -/
theorem ev_read {G : Env} {w : World} {R : HP} {g cap : Nat} {l : List Ev} {css : List (List Value)} (h : Sat G w (own 34 4 (.slice (some ⟨g, 0, none⟩) l.length cap) l.length css.flatten * (listHP evHP l css * R))) (k : Nat) (hk : k < l.length) :
    ∃ A c, (l[k]).data.length ≤ c ∧ w.cell? ⟨g, k * 4, none⟩ = some (.int .u64 (l[k]).num) ∧ w.cell? ⟨g, k * 4 + 1, none⟩ = some (.int .i64 (l[k]).typ) ∧ w.cell? ⟨g, k * 4 + 2, none⟩ = some (.int .i64 (l[k]).ver) ∧
      w.cell? ⟨g, k * 4 + 3, none⟩ = some (.slice A (l[k]).data.length c) ∧ (rd 1 (.slice A (l[k]).data.length c) (l[k]).data.length (bc (l[k]).data)).p (fr w) ∧ bytesV (l[k]).data := by
  have hL := h.right.left.2
  obtain ⟨cs, hcs, dv, hE⟩ := listHP_get hL (List.getElem?_eq_getElem hk)
  obtain ⟨⟨rfl, hb⟩, hd⟩ := (star_pu _ _ _).1 hE
  obtain ⟨A, c, rfl, hc, _⟩ := own_slice hd
  obtain ⟨_, A', c', ev, _, hz⟩ := h.own_rd
  cases ev
  have hf := flatten_get 4 css (evs_lens hL) k
  have rd1 : ∀ i u, i < 4 → (evCells l[k] (.slice A (l[k]).data.length c))[i]? = some u → w.cell? ⟨g, k * 4 + i, none⟩ = some u := by
    intro i u hi hu
    obtain ⟨a, ea, hcell⟩ := hz (k * 4 + i) u (by rw [hf i _ hcs hi]; exact hu)
    cases ea
    rw [add_lit] at hcell
    exact hcell
  exact ⟨A, c, hc, rd1 0 _ (by omega) rfl, rd1 1 _ (by omega) rfl, rd1 2 _ (by omega) rfl, rd1 3 _ (by omega) rfl, own_rd hd, hb⟩

theorem evs_snoc {G : Env} {w : World} {R : HP} {v dv : Value} {n : Nat} {l : List Ev} {e : Ev} {css : List (List Value)} (hb : bytesV e.data)
    (hn : n = l.length) (h : Sat G w (own 34 4 v (n + 1) (css.flatten ++ evCells e dv) * (listHP evHP l css * (own 5 1 dv e.data.length (bc e.data) * R)))) : Sat G w (evsHP v (l ++ [e]) * R) := by
  subst hn
  refine Sat.mkEx (css ++ [evCells e dv]) ?_
  have e1 : (css ++ [evCells e dv]).flatten = css.flatten ++ evCells e dv := by simp
  rw [e1, List.length_append, List.length_singleton, HP.assoc]
  have h1 := h.ac (B := own 34 4 v (l.length + 1) (css.flatten ++ evCells e dv) * ((listHP evHP l css * own 5 1 dv e.data.length (bc e.data)) * R)) (by ac_rfl)
  refine h1.mono' (fun f hf => star_mono hf (fun _ y => y) (fun f hf => star_mono hf (fun f hf => ?_) (fun _ y => y)))
  have hl := listHP_len (star_left hf)
  rw [listHP_snoc _ _ _ _ hl]
  exact star_mono hf (fun _ y => y) (fun f y => ⟨dv, (star_pu _ _ _).2 ⟨⟨rfl, hb⟩, y⟩⟩)
theorem evs_nil {G : Env} {w : World} {R : HP} (h : Sat G w R) : Sat G w (evsHP (.slice none 0 0) [] * R) := by
  refine Sat.mkEx [] ?_
  show Sat G w (_ * emp * R)
  rw [star_emp]
  exact h.own_nil 34 4
theorem rel_yes {G : Env} {w : World} {X : HP} {typ : Int} {l : List Ev} {v : Value} {k : Nat} (hk : k < l.length) {e : Ev} (he : l[k] = e) (hw : want typ e = true)
    (h : Sat G w (evsHP v ((l.take k).filter (want typ) ++ [e]) * X)) : EvRel G X typ l v (.int .i64 (k + 1)) w := by
  subst he
  refine ⟨k + 1, hk, by simp, ?_⟩
  rw [List.take_succ_eq_append_getElem hk, List.filter_append, List.filter_cons_of_pos hw]
  exact h
theorem rel_no {G : Env} {w : World} {X : HP} {typ : Int} {l : List Ev} {v : Value} {k : Nat} (hk : k < l.length) {e : Ev} (he : l[k] = e) (hw : ¬ want typ e = true)
    (h : Sat G w (evsHP v ((l.take k).filter (want typ)) * X)) : EvRel G X typ l v (.int .i64 (k + 1)) w := by
  subst he
  refine ⟨k + 1, hk, by simp, ?_⟩
  rw [List.take_succ_eq_append_getElem hk, List.filter_append, List.filter_cons_of_neg hw, List.filter_nil, List.append_nil]
  exact h

set_option maxHeartbeats 1000000 in
theorem Events_some {G : Env} {w : World} {R : HP} {b : Nat} {M : Model} (s : ByteArray) (typ : Int) (h : Sat G w (strHP b M * R)) (j : Nat) (hj : atM M s = some j) (hsz : ∀ e ∈ getM M s, e.data.length ≤ 140737488355328) (hlen : (getM M s).length ≤ 1048576) :
    Calls Try.prog 17 #[.pointer (some ⟨b, 0, none⟩), .string s, .int .i64 typ] w (Ret G fun v => evsHP v ((getM M s).filter (want typ)) * (strHP b M * R)) := by
  obtain ⟨i0, hi, hz0, hz1, hz2⟩ := info_parts info34
  obtain ⟨r, es, clock, hst, h⟩ := Sat.str h
  have hL := h.right.right.left.2
  have hr := h.right.blk
  obtain ⟨e0, he0, hk0, hrun⟩ := look_some hr hL hst s j hj
  obtain ⟨l, hml, hg⟩ := atM_some hj
  obtain ⟨B, eB, _⟩ := listHP_at (c := entHP) M es.toList j (s, l) e0 hml he0
  rw [eB] at h
  have h3 : ∃ css : List (List Value), Sat G w (own 34 4 e0.val l.length css.flatten * (listHP evHP l css * (blk b (.cells #[.map (some r)] 56 (0, 0)) * (blk r (.map es clock) * (B * R))))) := by
    have h4 := h.ac (B := pu (e0.key = .string s) * (evsHP e0.val l * (blk b (.cells #[.map (some r)] 56 (0, 0)) * (blk r (.map es clock) * (B * R))))) (by
      show _ = pu (e0.key = .string s) * _
      unfold entHP; ac_rfl)
    obtain ⟨css, h5⟩ := (h4.pu.2).ex
    exact ⟨css, h5.ac (by ac_rfl)⟩
  obtain ⟨css, h3⟩ := h3
  have hback : ∀ (w' : World) (Y : HP), Sat G w' (Y * (own 34 4 e0.val l.length css.flatten * (listHP evHP l css * (blk b (.cells #[.map (some r)] 56 (0, 0)) * (blk r (.map es clock) * (B * R)))))) → Sat G w' (Y * (strHP b M * R)) := by
    intro w' Y x
    have x1 := Sat.mkEx (A := fun css : List (List Value) => own 34 4 e0.val l.length css.flatten * listHP evHP l css) css (x.ac (B := (own 34 4 e0.val l.length css.flatten * listHP evHP l css) * (Y * (blk b (.cells #[.map (some r)] 56 (0, 0)) * (blk r (.map es clock) * (B * R))))) (by ac_rfl))
    have x2 := Sat.mkPu hk0 x1
    have x3 := x2.ac (B := blk b (.cells #[.map (some r)] 56 (0, 0)) * (blk r (.map es clock) * ((pu (e0.key = .string s) * evsHP e0.val l) * B * (Y * R)))) (by unfold evsHP; ac_rfl)
    have e1 : (pu (e0.key = .string s) * evsHP e0.val l) * B = listHP entHP M es.toList := eB.symm
    rw [e1] at x3
    exact (Sat.mkStr hst x3).ac (by ac_rfl)
  have hc := h3.right.right.cell 0
  obtain ⟨A, c, hv, hnc, hcm⟩ := own_slice (star_left h3.2)
  have hop : 0 < l.length → ∃ g, A = some ⟨g, 0, none⟩ := fun hp => by
    obtain ⟨g, cap, cur, e, _⟩ := own_open (star_left h3.2) hp
    rw [hv] at e; cases e; exact ⟨g, rfl⟩
  rw [hv] at hrun
  rw [hg] at hsz hlen
  simp only [List.getElem?_toArray, List.getElem?_cons_zero] at hc
  have HB := Lib.hid hback
  have HG := Lib.hid hg
  have H3 := Lib.hid h3
  have HS := Lib.hid hsz
  have HO := Lib.hid hop
  have HV := Lib.hid hv
  clear hback hg h3 hj hml he0 hk0 hL hr h eB hst hsz hop hv
  unfold maxLen at hcm
  go_enter Try.func17, Try.ntmps17
  go_wp2
  go_loopw [7, 19] (fun v i wr => EvRel G (own 34 4 e0.val l.length css.flatten * (listHP evHP l css * (blk b (.cells #[.map (some r)] 56 (0, 0)) * (blk r (.map es clock) * (B * R))))) typ l v i wr) (fun _ i _ => l.length - (intOf i).toNat)
  case atStart => exact ⟨0, Nat.zero_le _, rfl, evs_nil H3.out⟩
  case round =>
    obtain ⟨k, hk, rfl, hS⟩ := hrel
    by_cases hlt : k < l.length
    · obtain ⟨g, rfl⟩ := HO.out (by omega)
      have hS' := hS
      rw [HV.out] at hS'
      obtain ⟨A1, c1, q0, q1, q2, q3, q4, q5, q6⟩ := ev_read hS'.right k hlt
      have hsk := HS.out l[k] (List.getElem_mem hlt)
      generalize hek : l[k] = ek at *
      have HE := Lib.hid hek
      clear hek
      have hfl : ((l.take k).filter (want typ)).length ≤ 1048576 := by
        have := List.length_filter_le (want typ) (l.take k)
        have := List.length_take_le k l
        omega
      obtain ⟨css1, hS1⟩ := hS.ex
      have hb := hS1.alloc (.cells #[.int .u64 ek.num, .int .i64 ek.typ, .int .i64 ek.ver, .slice A1 ek.data.length c1] 34)
      have hd := (rd 1 _ _ _).up _ _ (fr_alloc_le wr (.cells #[.int .u64 ek.num, .int .i64 ek.typ, .int .i64 ek.ver, .slice A1 ek.data.length c1] 34)) q5
      clear hS' q5 hS1
      have HS' := Lib.hid hS
      have HBx := Lib.hid hb
      have HD := Lib.hid hd
      clear hS hb hd
      by_cases hw : want typ ek = true
      · have HW := Lib.hid hw
        by_cases ht : typ < 0
        all_goals
          first
            | have ht2 : (ek.typ == typ) = true := by simp only [want, Bool.or_eq_true, decide_eq_true_eq] at hw; rcases hw with hw | hw; exact absurd hw ht; simp [hw]
            | skip
          clear hw
          go_wp2_with fail
          refine (Clone_spec _ _ _ HBx.out HD.out (bc_one _) hsk).mono ?_
          rintro e w1 ⟨v', rfl, h1⟩
          obtain ⟨A', c', rfl, hnc', _⟩ := own_slice (star_left h1.2)
          generalize wr.heap.size = B0 at *
          have h1 := h1.ac (B := blk B0 (.cells #[.int .u64 ek.num, .int .i64 ek.typ, .int .i64 ek.ver, .slice A1 ek.data.length c1] 34) * ((own 34 4 u7 ((l.take k).filter (want typ)).length css1.flatten * listHP evHP ((l.take k).filter (want typ)) css1) * (own 34 4 e0.val l.length css.flatten * (listHP evHP l css * (blk b (.cells #[.map (some r)] 56 (0, 0)) * (blk r (.map es clock) * (B * R))))) * own 5 1 (.slice A' ek.data.length c') ek.data.length (bc ek.data))) (by ac_rfl)
          have c0 := h1.cell 0
          have c1 := h1.cell 1
          have c2 := h1.cell 2
          have c3 := h1.cell 3
          have f3 := h1.free 3
          have h2 := h1.set (off := 3) (.slice A' ek.data.length c')
          simp only [List.setIfInBounds_toArray, List.set_cons_zero, List.set_cons_succ, List.getElem?_toArray, List.getElem?_cons_succ, List.getElem?_cons_zero] at c0 c1 c2 c3 h2
          have h3 := h2.ac (B := own 34 4 u7 ((l.take k).filter (want typ)).length css1.flatten * (listHP evHP ((l.take k).filter (want typ)) css1 * (own 5 1 (.slice A' ek.data.length c') ek.data.length (bc ek.data) * ((own 34 4 e0.val l.length css.flatten * (listHP evHP l css * (blk b (.cells #[.map (some r)] 56 (0, 0)) * (blk r (.map es clock) * (B * R))))) * blk B0 (.cells #[.int .u64 ek.num, .int .i64 ek.typ, .int .i64 ek.ver, .slice A' ek.data.length c'] 34))))) (by ac_rfl)
          have hA := h3.alloc' (.cells #[.int .u64 ek.num, .int .i64 ek.typ, .int .i64 ek.ver, .slice A' ek.data.length c'] 34)
          have hN : (rd 4 _ 1 (evCells ek (.slice A' ek.data.length c'))).p _ := rd_set_new w1 ⟨B0, 3, none⟩ (.slice A' ek.data.length c') #[.int .u64 ek.num, .int .i64 ek.typ, .int .i64 ek.ver, .slice A' ek.data.length c'] 34 4 1 (by rfl)
          have HA := Lib.hid hA
          have HN := Lib.hid hN
          clear h1 h2 h3 hA hN
          go_wp2_with (at_builtin; refine wpList_append_sl (e := 34) (size := 4) rfl _ _ 44 rfl i0 _ _ Try.underlying44 hi hz0 hz1 hz2 rfl rfl HA.out _ 1 _ rfl HN.out ?_ ?_ ?_ ?_ ?_)
          · intro u hu; simp [evCells] at hu; rcases hu with rfl | rfl | rfl | rfl <;> rfl
          · intro v' w' h'
            go_wp2
            refine ⟨rel_yes hlt HE.out HW.out (evs_snoc (dv := .slice A' ek.data.length c') (css := css1) q6 rfl ?_), by simp [intOf]; omega⟩
            exact (h'.ac (B := own 34 4 v' (((l.take k).filter (want typ)).length + 1) (css1.flatten ++ evCells ek (.slice A' ek.data.length c')) * (listHP evHP ((l.take k).filter (want typ)) css1 * (own 5 1 (.slice A' ek.data.length c') ek.data.length (bc ek.data) * (own 34 4 e0.val l.length css.flatten * (listHP evHP l css * (blk b (.cells #[.map (some r)] 56 (0, 0)) * (blk r (.map es clock) * (B * R)))))) ) * blk B0 (.cells #[.int .u64 ek.num, .int .i64 ek.typ, .int .i64 ek.ver, .slice A' ek.data.length c'] 34)) (by ac_rfl)).left
          all_goals omega
      · have ht : ¬ typ < 0 := by simp [want] at hw; omega
        have ht2 : (ek.typ == typ) = false := by simp [want] at hw; simp [hw.2]
        have HW := Lib.hid hw
        clear hw
        go_wp2_with fail
        exact ⟨rel_no hlt HE.out HW.out (HS'.out.alloc' _), by simp [intOf]; omega⟩
    · go_wp2
      go_ret
      obtain rfl : k = l.length := by omega
      have := HB.out _ _ hS
      rw [List.take_length] at this
      rw [HG.out]
      exact Ret.mk _ this

set_option maxHeartbeats 400000 in
theorem Events_none {G : Env} {w : World} {R : HP} {b : Nat} {M : Model} (s : ByteArray) (typ : Int) (h : Sat G w (strHP b M * R)) (hj : atM M s = none) :
    Calls Try.prog 17 #[.pointer (some ⟨b, 0, none⟩), .string s, .int .i64 typ] w (Ret G fun v => evsHP v ((getM M s).filter (want typ)) * (strHP b M * R)) := by
  obtain ⟨r, es, clock, hst, h1⟩ := Sat.str h
  have hrun := (look_none h1.right.blk h1.right.right.left.2 s hj).1
  have hc := h1.cell 0
  simp only [List.getElem?_toArray, List.getElem?_cons_zero] at hc
  have hg := (atM_none hj).2
  have HG := Lib.hid hg
  have H := Lib.hid h
  clear h h1 hst hg hj
  go_enter Try.func17, Try.ntmps17
  go_wp2
  refine wp_loop_rounds 1 ?_
  rw [rounds_succ]
  go_wp2
  go_ret
  refine Ret.mk _ ?_
  rw [HG.out]
  exact evs_nil H.out
theorem Events_spec {G : Env} {w : World} {R : HP} {b : Nat} {M : Model} (s : ByteArray) (typ : Int) (h : Sat G w (strHP b M * R)) (hsz : ∀ e ∈ getM M s, e.data.length ≤ 140737488355328) (hlen : (getM M s).length ≤ 1048576) :
    Calls Try.prog 17 #[.pointer (some ⟨b, 0, none⟩), .string s, .int .i64 typ] w (Ret G fun v => evsHP v ((getM M s).filter (want typ)) * (strHP b M * R)) := by
  cases hj : atM M s with
  | none => exact Events_none s typ h hj
  | some j => exact Events_some s typ h j hj hsz hlen
theorem Events_nil {w : World} (s : ByteArray) (typ : Int) :
    Calls Try.prog 17 #[.pointer none, .string s, .int .i64 typ] w fun e w' => e = .returned (.slice none 0 0) ∧ w' = w := by
  go_enter Try.func17, Try.ntmps17
  go_wp2
  go_ret
  exact ⟨rfl, rfl⟩
/-- Add, whatever it is asked. -/
def addNum (M : Model) (s : ByteArray) (x : Int) : Int := if NameB s = true then (if x = (getM M s).length + 1 then x else 0) else 0
def addErr (M : Model) (s : ByteArray) (x : Int) : Int := if NameB s = true then (if x = (getM M s).length + 1 then 0 else 240) else 241
def addM (M : Model) (s : ByteArray) (x a2 a3 : Int) (xs : List Int) : Model := if NameB s = true ∧ x = (getM M s).length + 1 then putM M s ⟨x, a2, a3, xs⟩ else M
theorem Add_spec {G : Env} {w : World} {R : HP} (b : Nat) {M : Model} (s : ByteArray) (x a1 a2 a3 : Int) (dv : Value) (xs : List Int) (h : Sat G w (strHP b M * R))
    (hd : (rd 1 dv xs.length (bc xs)).p (fr w)) (hb : bytesV xs) (hsz : xs.length ≤ 140737488355328) (hlen : (getM M s).length ≤ 1048576) :
    Calls Try.prog 13 #[.pointer (some ⟨b, 0, none⟩), .string s, .int .u64 x, .agg #[.int .u64 a1, .int .i64 a2, .int .i64 a3, dv]] w
      (Ret G fun v => pu (v = two (addNum M s x) (addErr M s x)) * (strHP b (addM M s x a2 a3 xs) * R)) := by
  have hdv : ∃ A n c, dv = .slice A n c := by obtain ⟨_, A, c, e, _⟩ := hd; exact ⟨A, _, c, e⟩
  cases hn : NameB s with
  | false =>
    have e1 : addNum M s x = 0 := by simp [addNum, hn]
    have e2 : addErr M s x = 241 := by simp [addErr, hn]
    have e3 : addM M s x a2 a3 xs = M := by simp [addM, hn]
    rw [e1, e2, e3]
    exact Add_name b s x a1 a2 a3 dv hdv h hn
  | true =>
    by_cases hx : x = (getM M s).length + 1
    · have e1 : addNum M s x = (getM M s).length + 1 := by simp [addNum, hn, hx]
      have e2 : addErr M s x = 0 := by simp [addErr, hn, hx]
      have e3 : addM M s x a2 a3 xs = putM M s ⟨x, a2, a3, xs⟩ := by simp [addM, hn, hx]
      rw [e1, e2, e3, hx]
      cases hj : atM M s with
      | none => exact Add_none b s a1 a2 a3 dv _ xs h hn hd hb hsz hlen hj
      | some j => exact Add_some b s a1 a2 a3 dv _ xs h hn hd hb hsz hlen j hj
    · have e1 : addNum M s x = 0 := by simp [addNum, hn, hx]
      have e2 : addErr M s x = 240 := by simp [addErr, hn, hx]
      have e3 : addM M s x a2 a3 xs = M := by simp [addM, hx]
      rw [e1, e2, e3]
      exact Add_exp b s x a1 a2 a3 dv hdv h hn (by simpa using hx)
end Go.Proofs.Ytnjalbgcmgmmeaa
