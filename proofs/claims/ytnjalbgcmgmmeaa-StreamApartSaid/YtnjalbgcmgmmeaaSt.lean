/- The functions of stratum/stream over the model's worlds: what each answers and leaves. Conditions: sizes below 2^47. -/
import Derived.Test.YtnjalbgcmgmmeaaRows
import Derived.Test.YtnjalbgcmgmmeaaSlMap
import Derived.Lib.Hide
import Derived.RowKit
import Derived.Deep.RegionHeld3
namespace Go.Proofs.Ytnjalbgcmgmmeaa
open Go.RowKit Sl Go.MapKept
theorem info5 : (Try.prog.info? 5).map (fun i => (i.zero, i.size, i.bytes)) = some (some (.int .u8 0), 1, 1) := by kernel_rfl
theorem info34 : (Try.prog.info? 34).map (fun i => (i.zero, i.size, i.bytes)) = some (some (.agg #[.int .u64 0, .int .i64 0, .int .i64 0, .slice none 0 0]), 4, 48) := by kernel_rfl

/-- An event. -/
structure Ev where
  num : Int
  typ : Int
  ver : Int
  data : List Int
def bytesV (l : List Int) : Prop := ∀ n ∈ l, 0 ≤ n ∧ n ≤ 255
/-- The cells of bytes. -/
def bc (l : List Int) : List Value := l.map (Value.int .u8)
theorem bc_one (l : List Int) : ∀ u ∈ bc l, u.oneCell' = true := fun u hu => by obtain ⟨b, _, rfl⟩ := List.mem_map.1 hu; rfl
theorem bc_len (l : List Int) : (bc l).length = l.length := List.length_map _
def evCells (e : Ev) (dv : Value) : List Value := [.int .u64 e.num, .int .i64 e.typ, .int .i64 e.ver, dv]
def evHP (e : Ev) (cs : List Value) : HP := ex fun dv => pu (cs = evCells e dv ∧ bytesV e.data) * own 5 1 dv e.data.length (bc e.data)
def evsHP (v : Value) (l : List Ev) : HP := ex fun css : List (List Value) => own 34 4 v l.length css.flatten * listHP evHP l css
abbrev Model := List (ByteArray × List Ev)
def entHP (m : ByteArray × List Ev) (e : MapEntry) : HP := pu (e.key = .string m.1) * evsHP e.val m.2
def strHP (b : Nat) (M : Model) : HP := ex fun x : Nat × Array MapEntry × Nat =>
  pu (Stamped x.2.1 x.2.2) * (blk b (.cells #[.map (some x.1)] 56 (0, 0)) * (blk x.1 (.map x.2.1 x.2.2) * listHP entHP M x.2.1.toList))

def atM (M : Model) (s : ByteArray) : Option Nat := M.findIdx? (fun p => decide (p.1 = s))
def getM (M : Model) (s : ByteArray) : List Ev :=
  match atM M s with
  | some j => ((M[j]?).map (·.2)).getD []
  | none => []
def putM (M : Model) (s : ByteArray) (e : Ev) : Model :=
  match atM M s with
  | some j => M.set j (s, getM M s ++ [e])
  | none => M ++ [(s, [e])]
theorem atM_some {M : Model} {s : ByteArray} {j : Nat} (h : atM M s = some j) : ∃ l, M[j]? = some (s, l) ∧ getM M s = l := by
  obtain ⟨hlt, hp, _⟩ := List.findIdx?_eq_some_iff_getElem.1 h
  refine ⟨M[j].2, ?_, ?_⟩
  · rw [List.getElem?_eq_getElem hlt]
    have : M[j].1 = s := by simpa using hp
    rw [← this]
  · simp [getM, h, List.getElem?_eq_getElem hlt]
theorem atM_none {M : Model} {s : ByteArray} (h : atM M s = none) : (∀ p ∈ M, p.1 ≠ s) ∧ getM M s = [] := by
  refine ⟨fun p hp e => ?_, by simp [getM, h]⟩
  have := List.findIdx?_eq_none_iff.1 h p hp
  simp [e] at this
theorem ent_keys {M : Model} {es : List MapEntry} {h : Frag} (x : (listHP entHP M es).p h) : es.map (·.key) = M.map (fun p => .string p.1) := by
  induction M generalizing es with
  | nil => cases es with
    | nil => rfl
    | cons e es => exact x.elim
  | cons p M ih => cases es with
    | nil => exact x.elim
    | cons e es =>
      have h1 : e.key = .string p.1 := star_left (star_left x)
      simp [h1, ih (star_right x)]
theorem ent_isKey {M : Model} {es : List MapEntry} {h : Frag} (x : (listHP entHP M es).p h) : ∀ e ∈ es, IsKey .string e.key := by
  intro e he
  have : e.key ∈ es.map (·.key) := List.mem_map.2 ⟨e, he, rfl⟩
  rw [ent_keys x] at this
  obtain ⟨p, _, hp⟩ := List.mem_map.1 this
  rw [← hp]; simp [IsKey]
section
variable {G : Env} {w : World} {b r : Nat} {M : Model} {es : Array MapEntry} {clock : Nat} {R : HP}
theorem Sat.str (h : Sat G w (strHP b M * R)) : ∃ r es clock, Stamped es clock ∧ Sat G w (blk b (.cells #[.map (some r)] 56 (0, 0)) * (blk r (.map es clock) * (listHP entHP M es.toList * R))) := by
  obtain ⟨⟨r, es, clock⟩, h⟩ := h.ex
  rw [HP.assoc] at h
  obtain ⟨hs, h⟩ := h.pu
  exact ⟨r, es, clock, hs, h.ac (by ac_rfl)⟩
theorem Sat.mkStr (hs : Stamped es clock) (h : Sat G w (blk b (.cells #[.map (some r)] 56 (0, 0)) * (blk r (.map es clock) * (listHP entHP M es.toList * R)))) : Sat G w (strHP b M * R) := by
  refine Sat.mkEx (r, es, clock) ?_
  rw [HP.assoc]
  exact Sat.mkPu hs (h.ac (by ac_rfl))
theorem look_none (hb : w.heap[r]? = some (.map es clock)) (hL : (listHP entHP M es.toList).p (fr w)) (s : ByteArray) (hj : atM M s = none) :
    (Instr.lookup 54 (.map (some r)) (.string s) false).run Try.prog w = .ok (.slice none 0 0) w ∧ ∀ x ∈ es.toList, x.key ≠ .string s := by
  have hne : ∀ x ∈ es.toList, x.key ≠ .string s := by
    intro x hx e
    have : x.key ∈ es.toList.map (·.key) := List.mem_map.2 ⟨x, hx, rfl⟩
    rw [ent_keys hL] at this
    obtain ⟨p, hp, hpe⟩ := List.mem_map.1 this
    rw [e] at hpe
    exact (atM_none hj).1 p hp (by simpa using hpe)
  exact ⟨run_lookup_none Try.underlying54 Try.underlying9 hb (ent_isKey hL) s _ (fun _ => by kernel_rfl) hne, hne⟩
theorem look_some (hb : w.heap[r]? = some (.map es clock)) (hL : (listHP entHP M es.toList).p (fr w)) (hs : Stamped es clock) (s : ByteArray) (j : Nat) (hj : atM M s = some j) :
    ∃ e, es.toList[j]? = some e ∧ e.key = .string s ∧ (Instr.lookup 54 (.map (some r)) (.string s) false).run Try.prog w = .ok e.val w := by
  obtain ⟨l, hl, _⟩ := atM_some hj
  obtain ⟨e, he, hE⟩ := listHP_get hL hl
  have hk : e.key = .string s := star_left hE
  exact ⟨e, he, hk, run_lookup_some Try.underlying54 Try.underlying9 hb (ent_isKey hL) s hs.2.2 he hk⟩
end

set_option maxHeartbeats 400000 in
theorem Clone_spec {G : Env} {w : World} {R : HP} (v : Value) (n : Nat) (xs : List Value) (h : Sat G w R) (hd : (rd 1 v n xs).p (fr w)) (h1 : ∀ u ∈ xs, u.oneCell' = true) (hb : n ≤ 140737488355328) :
    Calls Try.prog 26 #[v] w (Ret G fun v' => own 5 1 v' n xs * R) := by
  obtain ⟨i0, hi, hz0, hz1, hz2⟩ := info_parts info5
  obtain ⟨hl, A, c, rfl, hnc, hcell⟩ := id hd
  have he := Lib.run_eql_slice_nil (P := Try.prog) w 32 5 A n c 0 0 Try.underlying32
  cases A with
  | none =>
    have hx : xs = [] := by
      cases xs with
      | nil => rfl
      | cons u l => obtain ⟨a, ha, _⟩ := hcell 0 u rfl; cases ha
    subst hx
    obtain rfl : n = 0 := by simp at hl; exact hl.symm
    clear hcell hl
    go_enter Try.func26, Try.ntmps26
    go_wp2
    go_ret
    exact Ret.mk _ (h.own_nil _ _)
  | some a =>
    have hlay := (h.alloc (.cells #[] 5)).mono (B := own 5 1 (.slice (some ⟨w.heap.size, 0, none⟩) 0 0) 0 []) (fun x hx => ⟨by simp, .inr ⟨_, _, _, rfl, hx, by simp, by simp, by simp, by simp⟩⟩)
    have hd' := (rd 1 _ n xs).up _ _ (fr_alloc_le w (.cells #[] 5)) hd
    clear hcell hl
    have HL := Lib.hid hlay
    have HD := Lib.hid hd'
    clear hlay hd' hd
    go_enter Try.func26, Try.ntmps26
    go_wp2_with (at_builtin; refine wpList_append_sl rfl _ _ 32 rfl i0 _ _ Try.underlying32 hi hz0 hz1 hz2 rfl rfl HL.out _ n xs rfl HD.out h1 ?_ ?c1 ?c2 ?c3; intro v' w' h')
    go_ret
    simp only [Nat.zero_add, List.nil_append] at h'
    exact Ret.mk _ h'
    all_goals omega

set_option maxHeartbeats 400000 in
theorem New_spec {G : Env} {w : World} {R : HP} (h : Sat G w R) :
    Calls Try.prog 9 #[] w (Ret G fun v => ex fun b => pu (v = .pointer (some ⟨b, 0, none⟩)) * (strHP b [] * R)) := by
  have hmm := @run_makeMap Try.prog
  go_enter Try.func9, Try.ntmps9
  go_wp2
  go_ret
  refine Ret.mk _ (Sat.mono' (A := blk (w.heap.size + 1) (.cells #[.map (some w.heap.size)] 56 (0, 0)) * (blk w.heap.size (.map #[] 0) * R)) ?_ ?_)
  · have h1 := (h.alloc (.map #[] 0)).alloc (.cells #[.map (some w.heap.size)] 56)
    simpa using h1
  · intro x hx
    refine ⟨w.heap.size + 1, (star_pu _ _ _).2 ⟨rfl, ?_⟩⟩
    refine (star_ex _ _ _).2 ⟨(w.heap.size, #[], 0), ?_⟩
    rw [HP.assoc, star_pu]
    refine ⟨stamped_empty 0, ?_⟩
    show (_ * (_ * emp) * R).p x
    rw [star_emp, HP.assoc]; exact hx

def NameB (s : ByteArray) : Bool := decide (1 ≤ s.size) && decide (s.size ≤ 256)
set_option maxHeartbeats 400000 in
theorem Name_spec {w : World} (s : ByteArray) : Calls Try.prog 22 #[.string s] w fun e w' => e = .returned (.bool (NameB s)) ∧ w' = w := by
  by_cases h1 : 1 ≤ s.size
  · have h1' : (1 : Int) ≤ (s.size : Int) := by omega
    go_enter Try.func22, Try.ntmps22
    go_wp2
    go_ret
    exact ⟨by simp [NameB, h1]; omega, rfl⟩
  · have h1' : ¬ (1 : Int) ≤ (s.size : Int) := by omega
    go_enter Try.func22, Try.ntmps22
    go_wp2
    go_ret
    exact ⟨by simp [NameB, h1], rfl⟩

set_option maxHeartbeats 400000 in
theorem Next_spec {G : Env} {w : World} {R : HP} {b : Nat} {M : Model} (s : ByteArray) (h : Sat G w (strHP b M * R)) :
    Calls Try.prog 15 #[.pointer (some ⟨b, 0, none⟩), .string s] w fun e w' => e = .returned (.int .u64 ((getM M s).length + 1)) ∧ w' = w := by
  obtain ⟨r, es, clock, hs, h⟩ := Sat.str h
  have hc := h.cell 0
  have hr := (h.ac (B := blk r (.map es clock) * (blk b (.cells #[.map (some r)] 56 (0, 0)) * (listHP entHP M es.toList * R))) (by ac_rfl)).blk
  have hL := h.right.right.left
  simp only [List.getElem?_toArray, List.getElem?_cons_zero] at hc
  cases hj : atM M s with
  | none =>
    have hrun := (look_none hr hL.2 s hj).1
    have hg := (atM_none hj).2
    have HG := Lib.hid hg
    clear hg hj hL hr h hs
    go_enter Try.func15, Try.ntmps15
    go_wp2
    go_ret
    exact ⟨by rw [HG.out]; rfl, rfl⟩
  | some j =>
    obtain ⟨e, he, hk, hrun⟩ := look_some hr hL.2 hs s j hj
    obtain ⟨l, hl, hg⟩ := atM_some hj
    obtain ⟨e', he', hE⟩ := listHP_get hL.2 hl
    rw [he] at he'; cases he'
    obtain ⟨css, hx⟩ := star_right hE
    obtain ⟨A, c, hv, hnc, hcm⟩ := own_slice (star_left hx)
    rw [hv] at hrun
    unfold maxLen at hcm
    have hnc' : l.length ≤ c := hnc
    have hlm : l.length ≤ 9223372036854775807 := by omega
    have HG := Lib.hid hg
    clear hg hj hL hr h hs hx hE hv he hk hl hnc hnc' hcm
    go_enter Try.func15, Try.ntmps15
    go_wp2
    go_ret
    exact ⟨by rw [HG.out]; rfl, rfl⟩
theorem Next_nil {w : World} (s : ByteArray) :
    Calls Try.prog 15 #[.pointer none, .string s] w fun e w' => e = .returned (.int .u64 0) ∧ w' = w := by
  go_enter Try.func15, Try.ntmps15
  go_wp2
  go_ret
  exact ⟨rfl, rfl⟩

def two (n : Int) (e : Int) : Value := .tuple #[.int .u64 n, .int .i64 e]
theorem Add_nil {G : Env} {w : World} {R : HP} (s : ByteArray) (x : Int) (a1 a2 a3 : Int) (dv : Value) (hd : ∃ A n c, dv = .slice A n c) (h : Sat G w R) :
    Calls Try.prog 13 #[.pointer none, .string s, .int .u64 x, .agg #[.int .u64 a1, .int .i64 a2, .int .i64 a3, dv]] w (Ret G fun v => pu (v = two 0 4) * R) := by
  obtain ⟨A, n, c, rfl⟩ := hd
  go_enter Try.func13, Try.ntmps13
  go_wp2
  go_ret2
  exact Ret.mk _ (Sat.mkPu rfl (h.alloc' _))
theorem Add_name {G : Env} {w : World} {R : HP} (b : Nat) (s : ByteArray) (x : Int) (a1 a2 a3 : Int) (dv : Value) (hd : ∃ A n c, dv = .slice A n c) (h : Sat G w R) (hn : NameB s = false) :
    Calls Try.prog 13 #[.pointer (some ⟨b, 0, none⟩), .string s, .int .u64 x, .agg #[.int .u64 a1, .int .i64 a2, .int .i64 a3, dv]] w (Ret G fun v => pu (v = two 0 241) * R) := by
  obtain ⟨A, n, c, rfl⟩ := hd
  go_enter Try.func13, Try.ntmps13
  go_wp2_with (go_at_call 22; refine (Name_spec _).mono ?_; rintro e w' ⟨rfl, rfl⟩)
  go_ret2
  exact Ret.mk _ (Sat.mkPu rfl (h.alloc' _))
theorem Add_exp {G : Env} {w : World} {R : HP} (b : Nat) {M : Model} (s : ByteArray) (x : Int) (a1 a2 a3 : Int) (dv : Value) (hd : ∃ A n c, dv = .slice A n c) (h : Sat G w (strHP b M * R)) (hn : NameB s = true)
    (hx : (x == ((getM M s).length + 1 : Int)) = false) :
    Calls Try.prog 13 #[.pointer (some ⟨b, 0, none⟩), .string s, .int .u64 x, .agg #[.int .u64 a1, .int .i64 a2, .int .i64 a3, dv]] w (Ret G fun v => pu (v = two 0 240) * (strHP b M * R)) := by
  obtain ⟨A, n, c, rfl⟩ := hd
  have h1 := h.alloc' (.cells #[.int .u64 a1, .int .i64 a2, .int .i64 a3, .slice A n c] 34)
  have H1 := Lib.hid h1
  have hx' : (x != ((getM M s).length + 1 : Int)) = true := by simpa [bne] using hx
  clear h1 h
  go_enter Try.func13, Try.ntmps13
  go_wp2_with (first | (go_at_call 22; refine (Name_spec _).mono ?_; rintro e w' ⟨rfl, rfl⟩) | (go_at_call 15; refine (Next_spec _ H1.out).mono ?_; rintro e w' ⟨rfl, rfl⟩))
  go_ret2
  exact Ret.mk _ (Sat.mkPu rfl H1.out)

/-- What the store of one more event needs of the world while it is reckoned. -/
theorem add_held {G : Env} {w : World} {b r B0 : Nat} {o : Obj} {cs : Array Value} {R : HP}
    (h : Sat G w (blk b (.cells #[.map (some r)] 56 (0, 0)) * (blk r o * (blk B0 (.cells cs 34 (0, 0)) * R)))) :
    w.cell? ⟨b, 0, none⟩ = some (.map (some r)) ∧ w.cell? ⟨B0, 0, none⟩ = cs[0]? ∧ w.cell? ⟨B0, 1, none⟩ = cs[1]? ∧ w.cell? ⟨B0, 2, none⟩ = cs[2]? ∧ w.cell? ⟨B0, 3, none⟩ = cs[3]? := by
  have h2 := h.right.right
  exact ⟨h.cell 0, h2.cell 0, h2.cell 1, h2.cell 2, h2.cell 3⟩

theorem add_end {G : Env} {w : World} {b r B0 j n : Nat} {es : Array MapEntry} {clock : Nat} {M : Model} {s : ByteArray} {l : List Ev} {e0 : MapEntry} {v dv : Value} {css : List (List Value)} {xs : List Int} {B R : HP} {o : Obj} {x a2 a3 : Int}
    (hs : Stamped es clock) (hj : atM M s = some j) (hg : getM M s = l) (he : es.toList[j]? = some e0) (hk : e0.key = .string s) (hb : bytesV xs)
    (fB : ∀ a' b', listHP entHP (M.set j a') (es.toList.set j b') = entHP a' b' * B) (hn : xs.length = n)
    (h : Sat G w (blk b (.cells #[.map (some r)] 56 (0, 0)) * (blk r (.map (es.modify j fun e => { e with key := .string s, val := v }) clock) * (blk B0 o * (own 34 4 v (l.length + 1) (css.flatten ++ evCells ⟨x, a2, a3, xs⟩ dv) * (listHP evHP l css * (B * (own 5 1 dv n (bc xs) * R)))))))) :
    Sat G w (strHP b (putM M s ⟨x, a2, a3, xs⟩) * R) := by
  subst hn
  have hs' : Stamped (es.modify j fun e => { e with key := .string s, val := v }) clock :=
    stamped_modify hs _ _ (fun _ _ => rfl) (fun e' _ he' => by
      have : es[j]? = some e0 := by simpa using he
      rw [this] at he'; cases he'; exact hk.symm)
  refine Sat.mkStr (r := r) hs' ?_
  rw [toList_modify _ he]
  unfold putM
  rw [hj]
  simp only [fB, hg]
  have h1 := h.ac (B := own 34 4 v (l.length + 1) (css.flatten ++ evCells ⟨x, a2, a3, xs⟩ dv) * ((listHP evHP l css * own 5 1 dv xs.length (bc xs)) * (blk b (.cells #[.map (some r)] 56 (0, 0)) * (blk r (.map (es.modify j fun e => { e with key := .string s, val := v }) clock) * (B * R)) * blk B0 o))) (by ac_rfl)
  have h2 : Sat G w (evsHP v (l ++ [⟨x, a2, a3, xs⟩]) * (blk b (.cells #[.map (some r)] 56 (0, 0)) * (blk r (.map (es.modify j fun e => { e with key := .string s, val := v }) clock) * (B * R)) * blk B0 o)) := by
    refine Sat.mkEx (css ++ [evCells ⟨x, a2, a3, xs⟩ dv]) ?_
    rw [HP.assoc]
    have e1 : (css ++ [evCells ⟨x, a2, a3, xs⟩ dv]).flatten = css.flatten ++ evCells ⟨x, a2, a3, xs⟩ dv := by simp
    rw [e1, List.length_append, List.length_singleton]
    refine h1.mono' (fun f hf => star_mono hf (fun _ y => y) (fun f hf => star_mono hf (fun f hf => ?_) (fun _ y => y)))
    have hl := listHP_len (star_left hf)
    rw [listHP_snoc _ _ _ _ hl]
    refine star_mono hf (fun _ y => y) (fun f y => ⟨dv, (star_pu _ _ _).2 ⟨⟨rfl, hb⟩, y⟩⟩)
  have h3 := Sat.mkPu (φ := (Value.string s = .string s)) rfl h2
  have h4 := h3.ac (B := (pu (Value.string s = .string s) * evsHP v (l ++ [⟨x, a2, a3, xs⟩])) * (blk b (.cells #[.map (some r)] 56 (0, 0)) * (blk r (.map (es.modify j fun e => { e with key := .string s, val := v }) clock) * (B * R))) * blk B0 o) (by ac_rfl)
  exact h4.left.ac (by show _ * _ = _; unfold entHP; ac_rfl)

set_option maxHeartbeats 1000000 in
theorem Add_some {G : Env} {w : World} {R : HP} (b : Nat) {M : Model} (s : ByteArray) (a1 a2 a3 : Int) (dv : Value) (n : Nat) (xs : List Int) (h : Sat G w (strHP b M * R)) (hn : NameB s = true)
    (hd : (rd 1 dv n (bc xs)).p (fr w)) (hb : bytesV xs) (hsz : n ≤ 140737488355328) (hlen : (getM M s).length ≤ 1048576) (j : Nat) (hj : atM M s = some j) :
    Calls Try.prog 13 #[.pointer (some ⟨b, 0, none⟩), .string s, .int .u64 ((getM M s).length + 1), .agg #[.int .u64 a1, .int .i64 a2, .int .i64 a3, dv]] w
      (Ret G fun v => pu (v = two ((getM M s).length + 1) 0) * (strHP b (putM M s ⟨(getM M s).length + 1, a2, a3, xs⟩) * R)) := by
  obtain ⟨hxl, A, c, rfl, hnc, _⟩ := id hd
  obtain ⟨i0, hi, hz0, hz1, hz2⟩ := info_parts info34
  have h1 := h.alloc (.cells #[.int .u64 a1, .int .i64 a2, .int .i64 a3, .slice A n c] 34)
  have h1' := h1.right
  have h2 := h.alloc (.cells #[.int .u64 ((getM M s).length + 1), .int .i64 a2, .int .i64 a3, .slice A n c] 34)
  have hd2 := (rd 1 _ n (bc xs)).up _ _ (fr_alloc_le w (.cells #[.int .u64 ((getM M s).length + 1), .int .i64 a2, .int .i64 a3, .slice A n c] 34)) hd
  have H1 := Lib.hid h1'
  have H2 := Lib.hid h2
  have HD := Lib.hid hd2
  have hx' : (((getM M s).length + 1 : Int) != ((getM M s).length + 1 : Int)) = false := by simp
  clear h1 h h2 h1' hd hd2
  have HJ := Lib.hid hj
  clear hj
  go_enter Try.func13, Try.ntmps13
  go_wp2_with (first | (go_at_call 22; refine (Name_spec _).mono ?_; rintro e w' ⟨rfl, rfl⟩) | (go_at_call 15; refine (Next_spec _ H1.out).mono ?_; rintro e w' ⟨rfl, rfl⟩) | fail)
  refine (Clone_spec _ n (bc xs) H2.out HD.out (bc_one xs) hsz).mono ?_
  rintro e w1 ⟨v', rfl, h1⟩
  obtain ⟨A', c', rfl, hnc', _⟩ := own_slice (star_left h1.2)
  generalize w.heap.size = B0 at *
  obtain ⟨r, es, clock, hst, h1⟩ := Sat.str (h1.ac (B := strHP b M * (own 5 1 (.slice A' n c') n (bc xs) * (blk B0 (.cells #[.int .u64 ((getM M s).length + 1), .int .i64 a2, .int .i64 a3, .slice A n c] 34) * R))) (by ac_rfl))
  have h1 := h1.ac (B := blk B0 (.cells #[.int .u64 ((getM M s).length + 1), .int .i64 a2, .int .i64 a3, .slice A n c] 34) * (blk b (.cells #[.map (some r)] 56 (0, 0)) * (blk r (.map es clock) * (listHP entHP M es.toList * (own 5 1 (.slice A' n c') n (bc xs) * R))))) (by ac_rfl)
  have c3 := h1.cell 3
  have f3 := h1.free 3
  have h2 := h1.set (off := 3) (.slice A' n c')
  simp only [List.setIfInBounds_toArray, List.set_cons_zero, List.set_cons_succ, List.getElem?_toArray, List.getElem?_cons_succ, List.getElem?_cons_zero] at c3 h2
  have HT := Lib.hid hst
  have hL := h2.right.right.right.left.2
  obtain ⟨e0, he0, hk0, _⟩ := look_some h2.right.right.blk hL hst s j HJ.out
  have hl : ∀ w : World, w.heap[r]? = some (.map es clock) → (Instr.lookup 54 (.map (some r)) (.string s) false).run Try.prog w = .ok e0.val w :=
    fun w hw => run_lookup_some Try.underlying54 Try.underlying9 hw (ent_isKey hL) s hst.2.2 he0 hk0
  obtain ⟨l, hml, hg⟩ := atM_some HJ.out
  obtain ⟨B, eB, fB⟩ := listHP_at (c := entHP) M es.toList j (s, l) e0 hml he0
  rw [eB] at h2
  have h3 : ∃ css : List (List Value), Sat G (w1.setCell ⟨B0, 3, none⟩ (.slice A' n c')) (own 34 4 e0.val l.length css.flatten * (blk b (.cells #[.map (some r)] 56 (0, 0)) * (blk r (.map es clock) * (blk B0 (.cells #[.int .u64 ((getM M s).length + 1), .int .i64 a2, .int .i64 a3, .slice A' n c'] 34) * (listHP evHP l css * (B * (own 5 1 (.slice A' n c') n (bc xs) * R))))))) := by
    have h4 := h2.ac (B := pu (e0.key = .string s) * (evsHP e0.val l * (blk b (.cells #[.map (some r)] 56 (0, 0)) * (blk r (.map es clock) * (blk B0 (.cells #[.int .u64 ((getM M s).length + 1), .int .i64 a2, .int .i64 a3, .slice A' n c'] 34) * (B * (own 5 1 (.slice A' n c') n (bc xs) * R))))))) (by
      show _ = pu (e0.key = .string s) * _
      unfold entHP; ac_rfl)
    obtain ⟨css, h5⟩ := (h4.pu.2).ex
    exact ⟨css, h5.ac (by ac_rfl)⟩
  obtain ⟨css, h3⟩ := h3
  clear h2
  have hu : ∀ (w : World) (v : Value), w.heap[r]? = some (.map es clock) → (Instr.mapUpdate 54 (.map (some r)) (.string s) v).run Try.prog w = .ok () { w with heap := w.heap.setIfInBounds r (.map (es.modify j fun e => { e with key := .string s, val := v }) clock) } :=
    fun w v hw => run_update_some Try.underlying54 Try.underlying9 hw (ent_isKey hL) s v hst.2.2 he0 hk0
  have HU := Lib.hid hu
  have HM := Lib.hid (And.intro he0 (And.intro hk0 (And.intro hml fB)))
  have HG := Lib.hid hg
  have H3 := Lib.hid h3
  have HL := Lib.hid hl
  have HT := Lib.hid hst
  clear h3 hl hg hu hst
  go_wp2_with fail
  generalize w1.setCell ⟨B0, 3, none⟩ (.slice A' n c') = w2 at *
  obtain ⟨s1, s2, s3, s4, s5⟩ := add_held H3.out.right
  have hr1 := HL.out w2.drew H3.out.drew.right.right.blk
  have hr2 := HL.out (w2.alloc (.cells #[.int .u64 ((getM M s).length + 1), .int .i64 a2, .int .i64 a3, .slice A' n c'] 34)).drew (H3.out.drew.alloc' _).right.right.blk
  have hll : l.length ≤ 1048576 := by rw [← HG.out]; exact hlen
  clear c3 f3 hL he0 hk0 hml eB fB H1 H2 HD
  go_region_held3 (fun w' => w'.cell? ⟨b, 0, none⟩ = some (.map (some r)) ∧ w'.cell? ⟨B0, 0, none⟩ = some (.int .u64 ((getM M s).length + 1)) ∧ w'.cell? ⟨B0, 1, none⟩ = some (.int .i64 a2) ∧ w'.cell? ⟨B0, 2, none⟩ = some (.int .i64 a3) ∧ w'.cell? ⟨B0, 3, none⟩ = some (.slice A' n c'))
    (first
      | exact ⟨s1, s2, s3, s4, s5⟩
      | exact add_held (H3.out.drew).right
      | exact add_held ((H3.out.drew).alloc' _).right
      | exact add_held hw3.right
      | exact add_held h4.out)
    ((refine step_append_sl (by rfl) _ _ 44 (by rfl) i0 _ _ Try.underlying44 hi hz0 hz1 hz2 (by rfl) (by rfl) ((H3.out.drew).alloc' _) _ 1 (evCells ⟨(getM M s).length + 1, a2, a3, xs⟩ (.slice A' n c')) (by rfl) (rd_new _ _ _ 4 1 (by rfl)) (by simp [evCells, Value.oneCell']) (by omega) (by omega) (by omega) ?_; intro v'' w3 hw3 hsz3; have hu := HU.out w3 v'' hw3.right.right.blk;
      have h4 := Lib.hid (((hw3.ac (B := blk r (.map es clock) * (own 34 4 v'' (l.length + 1) (css.flatten ++ evCells ⟨(getM M s).length + 1, a2, a3, xs⟩ (.slice A' n c')) * (blk b (.cells #[.map (some r)] 56 (0, 0)) * (listHP evHP l css * (B * (own 5 1 (.slice A' n c') n (bc xs) * R)))) * blk B0 (.cells #[.int .u64 ((getM M s).length + 1), .int .i64 a2, .int .i64 a3, .slice A' n c'] 34))) (by ac_rfl)).put (.map (es.modify j fun e => { e with key := .string s, val := v'' }) clock)).ac
        (B := blk b (.cells #[.map (some r)] 56 (0, 0)) * (blk r (.map (es.modify j fun e => { e with key := .string s, val := v'' }) clock) * (blk B0 (.cells #[.int .u64 ((getM M s).length + 1), .int .i64 a2, .int .i64 a3, .slice A' n c'] 34) * (own 34 4 v'' (l.length + 1) (css.flatten ++ evCells ⟨(getM M s).length + 1, a2, a3, xs⟩ (.slice A' n c')) * (listHP evHP l css * (B * (own 5 1 (.slice A' n c') n (bc xs) * R))))))) (by ac_rfl))))
  all_goals
    clear s1 s2 s3 s4 s5 hr1 hr2 hu
    go_wp2
    go_ret2
    obtain ⟨he0, hk0, hml, fB⟩ := HM.out
    exact Ret.mk _ (Sat.mkPu (by simp [two]) (add_end HT.out HJ.out HG.out he0 hk0 hb fB (by simpa [bc] using hxl) h4.out))
theorem add_new {G : Env} {w : World} {b r B0 n : Nat} {es : Array MapEntry} {clock : Nat} {M : Model} {s : ByteArray} {v dv : Value} {xs : List Int} {R : HP} {o : Obj} {x a2 a3 : Int}
    (hs : Stamped es clock) (hj : atM M s = none) (hne : ∀ x ∈ es.toList, x.key ≠ .string s) (hb : bytesV xs) (hn : xs.length = n)
    (h : Sat G w (blk b (.cells #[.map (some r)] 56 (0, 0)) * (blk r (.map (es.push { key := .string s, val := v, born := clock }) (clock + 1)) * (blk B0 o * (own 34 4 v (0 + 1) ([] ++ evCells ⟨x, a2, a3, xs⟩ dv) * (listHP entHP M es.toList * (own 5 1 dv n (bc xs) * R))))))) :
    Sat G w (strHP b (putM M s ⟨x, a2, a3, xs⟩) * R) := by
  subst hn
  have hl := listHP_len h.right.right.right.right.left.2
  refine Sat.mkStr (r := r) (stamped_push (val := v) hs hne) ?_
  unfold putM
  rw [hj]
  simp only [Array.toList_push]
  rw [listHP_snoc _ _ _ _ hl]
  have h1 := h.ac (B := own 34 4 v 1 ([] ++ evCells ⟨x, a2, a3, xs⟩ dv) * (own 5 1 dv xs.length (bc xs) * (blk b (.cells #[.map (some r)] 56 (0, 0)) * (blk r (.map (es.push { key := .string s, val := v, born := clock }) (clock + 1)) * (listHP entHP M es.toList * R)) * blk B0 o))) (by ac_rfl)
  have h2 : Sat G w (evsHP v [⟨x, a2, a3, xs⟩] * (blk b (.cells #[.map (some r)] 56 (0, 0)) * (blk r (.map (es.push { key := .string s, val := v, born := clock }) (clock + 1)) * (listHP entHP M es.toList * R)) * blk B0 o)) := by
    refine Sat.mkEx [evCells ⟨x, a2, a3, xs⟩ dv] ?_
    rw [HP.assoc]
    refine h1.mono' (fun f hf => star_mono hf (fun _ y => y) (fun f hf => star_mono hf (fun f y => ?_) (fun _ y => y)))
    show (_ * emp).p f
    rw [star_emp]
    exact ⟨dv, (star_pu _ _ _).2 ⟨⟨rfl, hb⟩, y⟩⟩
  have h3 := Sat.mkPu (φ := (Value.string s = .string s)) rfl h2
  have h4 := h3.ac (B := blk b (.cells #[.map (some r)] 56 (0, 0)) * (blk r (.map (es.push { key := .string s, val := v, born := clock }) (clock + 1)) * (listHP entHP M es.toList * (pu (Value.string s = .string s) * evsHP v [⟨x, a2, a3, xs⟩]) * R)) * blk B0 o) (by ac_rfl)
  exact h4.left

set_option maxHeartbeats 1000000 in
theorem Add_none {G : Env} {w : World} {R : HP} (b : Nat) {M : Model} (s : ByteArray) (a1 a2 a3 : Int) (dv : Value) (n : Nat) (xs : List Int) (h : Sat G w (strHP b M * R)) (hn : NameB s = true)
    (hd : (rd 1 dv n (bc xs)).p (fr w)) (hb : bytesV xs) (hsz : n ≤ 140737488355328) (hlen : (getM M s).length ≤ 1048576) (hj : atM M s = none) :
    Calls Try.prog 13 #[.pointer (some ⟨b, 0, none⟩), .string s, .int .u64 ((getM M s).length + 1), .agg #[.int .u64 a1, .int .i64 a2, .int .i64 a3, dv]] w
      (Ret G fun v => pu (v = two ((getM M s).length + 1) 0) * (strHP b (putM M s ⟨(getM M s).length + 1, a2, a3, xs⟩) * R)) := by
  obtain ⟨hxl, A, c, rfl, hnc, _⟩ := id hd
  obtain ⟨i0, hi, hz0, hz1, hz2⟩ := info_parts info34
  have h1 := h.alloc (.cells #[.int .u64 a1, .int .i64 a2, .int .i64 a3, .slice A n c] 34)
  have h1' := h1.right
  have h2 := h.alloc (.cells #[.int .u64 ((getM M s).length + 1), .int .i64 a2, .int .i64 a3, .slice A n c] 34)
  have hd2 := (rd 1 _ n (bc xs)).up _ _ (fr_alloc_le w (.cells #[.int .u64 ((getM M s).length + 1), .int .i64 a2, .int .i64 a3, .slice A n c] 34)) hd
  have H1 := Lib.hid h1'
  have H2 := Lib.hid h2
  have HD := Lib.hid hd2
  have hx' : (((getM M s).length + 1 : Int) != ((getM M s).length + 1 : Int)) = false := by simp
  clear h1 h h2 h1' hd hd2
  have HJ := Lib.hid hj
  clear hj
  go_enter Try.func13, Try.ntmps13
  go_wp2_with (first | (go_at_call 22; refine (Name_spec _).mono ?_; rintro e w' ⟨rfl, rfl⟩) | (go_at_call 15; refine (Next_spec _ H1.out).mono ?_; rintro e w' ⟨rfl, rfl⟩) | fail)
  refine (Clone_spec _ n (bc xs) H2.out HD.out (bc_one xs) hsz).mono ?_
  rintro e w1 ⟨v', rfl, h1⟩
  obtain ⟨A', c', rfl, hnc', _⟩ := own_slice (star_left h1.2)
  generalize w.heap.size = B0 at *
  obtain ⟨r, es, clock, hst, h1⟩ := Sat.str (h1.ac (B := strHP b M * (own 5 1 (.slice A' n c') n (bc xs) * (blk B0 (.cells #[.int .u64 ((getM M s).length + 1), .int .i64 a2, .int .i64 a3, .slice A n c] 34) * R))) (by ac_rfl))
  have h1 := h1.ac (B := blk B0 (.cells #[.int .u64 ((getM M s).length + 1), .int .i64 a2, .int .i64 a3, .slice A n c] 34) * (blk b (.cells #[.map (some r)] 56 (0, 0)) * (blk r (.map es clock) * (listHP entHP M es.toList * (own 5 1 (.slice A' n c') n (bc xs) * R))))) (by ac_rfl)
  have c3 := h1.cell 3
  have f3 := h1.free 3
  have h2 := h1.set (off := 3) (.slice A' n c')
  simp only [List.setIfInBounds_toArray, List.set_cons_zero, List.set_cons_succ, List.getElem?_toArray, List.getElem?_cons_succ, List.getElem?_cons_zero] at c3 h2
  have HT := Lib.hid hst
  have hL := h2.right.right.right.left.2
  obtain ⟨_, hne⟩ := look_none h2.right.right.blk hL s HJ.out
  have hl : ∀ w : World, w.heap[r]? = some (.map es clock) → (Instr.lookup 54 (.map (some r)) (.string s) false).run Try.prog w = .ok (.slice none 0 0) w :=
    fun w hw => run_lookup_none Try.underlying54 Try.underlying9 hw (ent_isKey hL) s _ (fun _ => by kernel_rfl) hne
  have hg := (atM_none HJ.out).2
  have h3 := (h2.own_nil 34 4).ac (B := own 34 4 (.slice none 0 0) 0 [] * (blk b (.cells #[.map (some r)] 56 (0, 0)) * (blk r (.map es clock) * (blk B0 (.cells #[.int .u64 ((getM M s).length + 1), .int .i64 a2, .int .i64 a3, .slice A' n c'] 34) * (listHP entHP M es.toList * (own 5 1 (.slice A' n c') n (bc xs) * R)))))) (by ac_rfl)
  clear h2
  have hu : ∀ (w : World) (v : Value), w.heap[r]? = some (.map es clock) → (Instr.mapUpdate 54 (.map (some r)) (.string s) v).run Try.prog w = .ok () { w with heap := w.heap.setIfInBounds r (.map (es.push { key := .string s, val := v, born := clock }) (clock + 1)) } :=
    fun w v hw => run_update_none Try.underlying54 Try.underlying9 hw (ent_isKey hL) s v hne
  have HU := Lib.hid hu
  have HM := Lib.hid hne
  have HG := Lib.hid hg
  have H3 := Lib.hid h3
  have HL := Lib.hid hl
  have HT := Lib.hid hst
  clear h3 hl hg hu hst
  go_wp2_with fail
  generalize w1.setCell ⟨B0, 3, none⟩ (.slice A' n c') = w2 at *
  obtain ⟨s1, s2, s3, s4, s5⟩ := add_held H3.out.right
  have hr1 := HL.out w2.drew H3.out.drew.right.right.blk
  have hr2 := HL.out (w2.alloc (.cells #[.int .u64 ((getM M s).length + 1), .int .i64 a2, .int .i64 a3, .slice A' n c'] 34)).drew (H3.out.drew.alloc' _).right.right.blk
  clear c3 f3 hL H1 HD
  go_region_held3 (fun w' => w'.cell? ⟨b, 0, none⟩ = some (.map (some r)) ∧ w'.cell? ⟨B0, 0, none⟩ = some (.int .u64 ((getM M s).length + 1)) ∧ w'.cell? ⟨B0, 1, none⟩ = some (.int .i64 a2) ∧ w'.cell? ⟨B0, 2, none⟩ = some (.int .i64 a3) ∧ w'.cell? ⟨B0, 3, none⟩ = some (.slice A' n c'))
    (first
      | exact ⟨s1, s2, s3, s4, s5⟩
      | exact add_held (H3.out.drew).right
      | exact add_held ((H3.out.drew).alloc' _).right
      | exact add_held hw3.right
      | exact add_held h4.out)
    ((refine step_append_sl (by rfl) _ _ 44 (by rfl) i0 _ _ Try.underlying44 hi hz0 hz1 hz2 (by rfl) (by rfl) ((H3.out.drew).alloc' _) _ 1 (evCells ⟨(getM M s).length + 1, a2, a3, xs⟩ (.slice A' n c')) (by rfl) (rd_new _ _ _ 4 1 (by rfl)) (by simp [evCells, Value.oneCell']) (by omega) (by omega) (by omega) ?_; intro v'' w3 hw3 hsz3; have hu := HU.out w3 v'' hw3.right.right.blk;
      have h4 := Lib.hid (((hw3.ac (B := blk r (.map es clock) * (own 34 4 v'' (0 + 1) ([] ++ evCells ⟨(getM M s).length + 1, a2, a3, xs⟩ (.slice A' n c')) * (blk b (.cells #[.map (some r)] 56 (0, 0)) * (listHP entHP M es.toList * (own 5 1 (.slice A' n c') n (bc xs) * R))) * blk B0 (.cells #[.int .u64 ((getM M s).length + 1), .int .i64 a2, .int .i64 a3, .slice A' n c'] 34))) (by ac_rfl)).put (.map (es.push { key := .string s, val := v'', born := clock }) (clock + 1))).ac
        (B := blk b (.cells #[.map (some r)] 56 (0, 0)) * (blk r (.map (es.push { key := .string s, val := v'', born := clock }) (clock + 1)) * (blk B0 (.cells #[.int .u64 ((getM M s).length + 1), .int .i64 a2, .int .i64 a3, .slice A' n c'] 34) * (own 34 4 v'' (0 + 1) ([] ++ evCells ⟨(getM M s).length + 1, a2, a3, xs⟩ (.slice A' n c')) * (listHP entHP M es.toList * (own 5 1 (.slice A' n c') n (bc xs) * R)))))) (by ac_rfl))))
  all_goals
    clear s1 s2 s3 s4 s5 hr1 hr2 hu
    go_wp2
    go_ret2
    exact Ret.mk _ (Sat.mkPu (by simp [two]) (add_new HT.out HJ.out HM.out hb (by simpa [bc] using hxl) h4.out))
end Go.Proofs.Ytnjalbgcmgmmeaa
