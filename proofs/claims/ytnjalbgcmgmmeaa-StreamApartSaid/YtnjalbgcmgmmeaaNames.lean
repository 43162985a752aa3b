/- (*Streams).Names over the model's worlds: the names, sorted. Conditions: names of at most 256 bytes, at most 2^20 of them. -/
import Derived.Test.YtnjalbgcmgmmeaaSt
import Derived.Test.YtnjalbgcmgmmeaaSh
import Derived.Sort.KeysCollected
import Derived.Sort.LotA
namespace Go.Proofs.Ytnjalbgcmgmmeaa
open Go.RowKit Sl Go.MapKept

theorem insert_perm {H : Type} (x : Lit × DataW H) : ∀ l, (DataW.insert x l).Perm (x :: l)
  | [] => List.Perm.refl _
  | y :: r => by
    unfold DataW.insert
    split
    · exact List.Perm.refl _
    · exact ((insert_perm x r).cons y).trans (List.Perm.swap x y r)
theorem foldr_perm {H : Type} : ∀ l : List (Lit × DataW H), (l.foldr DataW.insert []).Perm l
  | [] => List.Perm.refl _
  | x :: l => (insert_perm x _).trans ((foldr_perm l).cons x)

/-- How an element of the streams' map is read here: not at all. -/
def noR (_ : Value) : Option (DataW Unit × List MemPlace) := some (.nil, [])
def keysOf (M : Model) : List (List UInt8) := M.map fun p => p.1.data.toList
theorem key_lit (s : ByteArray) (h : s.size ≤ 256) : keyOf Try.prog 9 (.string s) = some (.string s.data.toList) := by
  have : s.size ≤ maxLen := by unfold maxLen; omega
  simp [keyOf, mapKey, Try.underlying9, this]
theorem owns {w : World} {r : Nat} {es : Array MapEntry} {clock : Nat} {M : Model} (hb : w.heap[r]? = some (.map es clock)) (hst : Stamped es clock) (hL : (listHP entHP M es.toList).p (fr w))
    (hk : ∀ p ∈ M, p.1.size ≤ 256) (hn : M.length ≤ 1048576) : ∃ D : DataW Unit, w.ownsMap Try.prog 9 noR r M.length D ∧ (strKeys D).Perm (keysOf M) ∧ Maps.size D = M.length := by
  have hl := listHP_len hL
  have hsz : es.size = M.length := by simpa using hl.symm
  have hrd : ∀ x ∈ es.toList, ∃ p ∈ M, x.key = .string p.1 ∧ WideElems.rd Try.prog 9 noR x = some (.string p.1.data.toList, .nil) := by
    intro x hx
    have : x.key ∈ es.toList.map (·.key) := List.mem_map.2 ⟨x, hx, rfl⟩
    rw [ent_keys hL] at this
    obtain ⟨p, hp, hpe⟩ := List.mem_map.1 this
    refine ⟨p, hp, hpe.symm, ?_⟩
    simp [WideElems.rd, ← hpe, key_lit p.1 (hk p hp), noR]
  have hrg : es.toList.map (fun x => strOf (WideElems.rg Try.prog 9 noR x).1) = keysOf M := by
    have h1 : es.toList.map (fun x => strOf (WideElems.rg Try.prog 9 noR x).1) = (es.toList.map (·.key)).map (fun v => match v with | .string s => s.data.toList | _ => []) := by
      rw [List.map_map]
      refine List.map_congr_left fun x hx => ?_
      obtain ⟨p, _, e1, e2⟩ := hrd x hx
      simp [WideElems.rg_of e2, e1, strOf]
    rw [h1, ent_keys hL, List.map_map]
    rfl
  refine ⟨_, ⟨es, clock, hb, ⟨by unfold maxLen; omega, hst, fun x hx => ?_⟩, by omega, rfl⟩, ?_, ?_⟩
  · obtain ⟨p, _, _, e⟩ := hrd x hx; exact ⟨_, e⟩
  · have := (foldr_perm (es.toList.map (WideElems.rg Try.prog 9 noR))).map (fun p => strOf p.1)
    rw [List.map_map] at this
    show ((List.foldr DataW.insert [] _).map _).Perm _
    rw [← hrg]
    exact this
  · simp only [Maps.size]
    rw [(foldr_perm _).length_eq]
    simp [hsz]

theorem cmp_lt : ∀ x y : List UInt8, Lib.compareBytes x y < 0 ↔ x < y
  | [], [] => by simp [Lib.compareBytes]
  | [], b :: y => by simp [Lib.compareBytes]
  | a :: x, [] => by simp [Lib.compareBytes]
  | a :: x, b :: y => by
    unfold Lib.compareBytes
    by_cases h1 : a < b
    · simp [h1, List.cons_lt_cons_iff]
    · by_cases h2 : b < a
      · have : ¬ a = b := by rintro rfl; exact h1 h2
        simp [h1, h2, List.cons_lt_cons_iff, this]
      · have : a = b := by
          have h1' := UInt8.not_lt.1 h1; have h2' := UInt8.not_lt.1 h2
          exact UInt8.le_antisymm h2' h1'
        subst this
        simp [h1, List.cons_lt_cons_iff, cmp_lt x y]
theorem lt_cmp : ltOf Lib.compareBytes = Sort.ltStr := by
  funext x y
  simp only [ltOf, Sort.ltStr]
  exact decide_eq_decide.2 (cmp_lt x y)
theorem sort_eq (d d' : Array (List UInt8)) (hp : Sort.PermIn 0 d.size d d') (hs : Sort.SortedIn Sort.ltStr 0 d.size d') : d' = (d.toList.mergeSort leB).toArray := by
  have h0 := Sort.sorted_unique_holds Sort.swo_ltStr (fun x y h1 h2 => by simp only [Sort.ltStr, decide_eq_false_iff_not, List.not_lt] at h1 h2; exact List.le_antisymm h2 h1) d d' hp hs
  rw [show d' = d'.toList.toArray from rfl, h0]
  congr 2
  funext x y
  simp only [Sort.ltStr, leB]
  by_cases h : x ≤ y
  · have h' : ¬ y < x := List.not_lt.2 h
    simp [h, h']
  · have h' : y < x := List.not_le.1 h
    simp [h, h']

theorem grow_nil (W : World) : Sort.grow (W.drewN 0) #[] = W := by cases W; simp [Sort.grow, World.drewN]
theorem keys_calls (r : Nat) (w : World) : Calls Try.prog 29 #[.map (some r)] w fun e w' =>
    e = .returned (.func (.func 33) #[] #[.pointer (some ⟨w.heap.size, 0, none⟩)]) ∧ w' = w.alloc (.cells #[.map (some r)] 54) :=
  (callsIn_wide (n := 6)).1 (AnyZ.keys_in Try.keys29 Fence.wide 6 trivial rfl (some r) w)
theorem collect_calls {r B nn : Nat} {D : DataW Unit} {w : World} (hB : B < w.heap.size) (hm : w.cell? ⟨B, 0, none⟩ = some (.map (some r))) (hown : w.ownsMap Try.prog 9 noR r nn D) (hN : Maps.size D ≤ 1048576) :
    Calls Try.prog 31 #[.func (.func 33) #[] #[.pointer (some ⟨B, 0, none⟩)]] w fun e w' =>
      ∃ v ss, e = .returned v ∧ ss.Perm (strKeys D) ∧ w'.ownsRow w.heap.size 9 1 v ss.length (ss.map encStr) ∧ (v = .slice none 0 0 ↔ ss = []) ∧ Below w.heap.size w w' :=
  (callsIn_wide (n := 6)).1 (AnyZ.collect_in Try.collect31 Fence.wide 6 trivial trivial rfl (by omega) 33 #[.pointer (some ⟨B, 0, none⟩)] trivial (fun _ _ => by kernel_rfl) (fun ss => ss.Perm (strKeys D)) (Maps.size D) (by unfold maxLen; omega) (by omega) w
    (AnyZ.keys_gives (L := { Try.keys29 with }) Fence.wide 4 trivial rfl (by omega) B r nn D w hB hm hown))
theorem sort_calls {blk cap : Nat} {ss : List (List UInt8)} {w : World} (hH : Sort.Holds encStr w blk 0 ss.toArray) (hblk : blk < w.heap.size) (hsz : ss.length ≤ 1048576) :
    Calls Try.prog 32 #[.slice (some ⟨blk, 0, none⟩) ss.length cap, .func (.func 30) #[] #[]] w fun e w' =>
      e = .returned (.tuple #[]) ∧ ∃ n os, w' = sortWorld encStr w blk 0 n (ss.mergeSort leB).toArray os :=
  (Any.slices_SortFunc Try.sort32 encStr (fun _ => rfl) Lib.compareBytes (by rw [lt_cmp]; exact Sort.swo_ltStr) 30 #[] blk 0 cap ss.toArray w (fun _ _ => by kernel_rfl)
    (fun m os dk _ x y => (Try.strings_Compare _ _ _).mono fun e w' ⟨he, hw⟩ => ⟨by simpa using he, 0, #[], by rw [hw]; exact (grow_nil _).symm⟩) hH hblk (by simp; omega)).mono
    fun e w' ⟨he, d', n, os, hp, hs, hw⟩ => by
      refine ⟨he, n, os, ?_⟩
      rw [lt_cmp] at hs
      rw [hw, sort_eq _ _ hp hs]

theorem heap_sorted {w : World} {g n : Nat} {cur : Array Value} {t : TypeId} {d : Array (List UInt8)} {os : Array Obj} (hg : w.heap[g]? = some (.cells cur t (0, 0))) :
    (sortWorld encStr w g 0 n d os).heap[g]? = some (.cells (Sort.putCells encStr 0 d cur) t (0, 0)) ∧ ∀ k, k ≠ g → k < w.heap.size → (sortWorld encStr w g 0 n d os).heap[k]? = w.heap[k]? := by
  have hlt := (Array.getElem?_eq_some_iff.1 hg).1
  have hs : (w.heap.modify g (Sort.onCells (Sort.putCells encStr 0 d))).size = w.heap.size := Array.size_modify
  constructor
  · show ((w.heap.modify g (Sort.onCells (Sort.putCells encStr 0 d))) ++ os)[g]? = _
    rw [Array.getElem?_append_left (by omega), Array.getElem?_modify, if_pos rfl, hg]
    rfl
  · intro k hk hlk
    show ((w.heap.modify g (Sort.onCells (Sort.putCells encStr 0 d))) ++ os)[k]? = _
    rw [Array.getElem?_append_left (by omega), Array.getElem?_modify, if_neg (Ne.symm hk)]
theorem sorted_cells {cur : Array Value} {ss : List (List UInt8)} (hl : ss.length ≤ cur.size) : (Sort.putCells encStr 0 ss.toArray cur).toList.take ss.length = ss.map encStr := by
  apply List.ext_getElem?
  intro i
  rw [List.getElem?_take, List.getElem?_map]
  by_cases hi : i < ss.length
  · rw [if_pos hi]
    have hc : i < cur.size := by omega
    simp [Sort.putCells, Array.getElem?_mapIdx, hc, hi]
  · rw [if_neg hi, List.getElem?_eq_none (by omega)]; rfl

theorem ins_none (p : Option Addr) (cap : Nat) (fv : Value) (w : World) : Calls Try.prog 39 #[.slice p 0 cap, .int .i64 0, .int .i64 0, fv] w fun e w' => e = .returned (.tuple #[]) ∧ w' = w := by
  go_enter Try.func39, Try.ntmps39
  go_wp2
  refine wp_loop_rounds 1 ?_
  rw [rounds_succ]
  go_wp2
  go_end0
  exact ⟨rfl, rfl⟩
theorem pdq_none (p : Option Addr) (cap : Nat) (lim : Int) (fv : Value) (w : World) : Calls Try.prog 36 #[.slice p 0 cap, .int .i64 0, .int .i64 0, .int .i64 lim, fv] w fun e w' => e = .returned (.tuple #[]) ∧ w' = w := by
  go_enter Try.func36, Try.ntmps36
  go_wp2
  refine wp_loop_rounds 1 ?_
  rw [rounds_succ]
  go_wp2_with (go_at_call 39; refine (ins_none _ _ _ _).mono ?_; rintro e w' ⟨rfl, rfl⟩)
  refine bodyPost_ret (results_none rfl _ _ _) rfl ?_
  exact ⟨rfl, rfl⟩
theorem sort_none (p : Option Addr) (cap : Nat) (fv : Value) (w : World) : Calls Try.prog 32 #[.slice p 0 cap, fv] w fun e w' => e = .returned (.tuple #[]) ∧ w' = w := by
  go_enter Try.func32, Try.ntmps32
  go_wp2_with (first | (go_at_call 37; refine (Try.bits_Len 0 _ (by omega) (by omega)).mono ?_; rintro e w' ⟨rfl, rfl⟩) | (go_at_call 36; refine (pdq_none _ _ _ _ _).mono ?_; rintro e w' ⟨rfl, rfl⟩))
  go_end0
  exact ⟨rfl, rfl⟩

def namesHP (v : Value) (ss : List (List UInt8)) : HP := own 9 1 v ss.length (ss.map encStr)
set_option maxHeartbeats 400000 in
theorem SortedFunc_spec {G : Env} {R : HP} {r B nn : Nat} {D : DataW Unit} {w : World} (h : Sat G w R) (hB : B < w.heap.size) (hm : w.cell? ⟨B, 0, none⟩ = some (.map (some r))) (hown : w.ownsMap Try.prog 9 noR r nn D) (hN : Maps.size D ≤ 1048576) (hk : (strKeys D).length ≤ 1048576) :
    Calls Try.prog 28 #[.func (.func 33) #[] #[.pointer (some ⟨B, 0, none⟩)], .func (.func 30) #[] #[]] w (Ret G fun v => namesHP v ((strKeys D).mergeSort leB) * R) := by
  have hc := collect_calls hB hm hown hN
  have HC := Lib.hid hc
  clear hc hm hown
  go_enter Try.func28, Try.ntmps28
  go_wp2_with fail
  refine HC.out.mono ?_
  rintro e w1 ⟨v, ss, rfl, hp, ho, hnil, hb⟩
  have h1 := h.of_ownsRow hb ho
  have hl : ss.length ≤ 1048576 := by rw [hp.length_eq]; exact hk
  have hms : ss.mergeSort leB = (strKeys D).mergeSort leB := mergeSort_of_perm hp
  rcases (star_left h1.2).2 with ⟨rfl, h0⟩ | ⟨g, cap, cur, rfl, hg, hnc, hcm, hcs, htake⟩
  · have hss : ss = [] := List.length_eq_zero_iff.1 h0
    subst hss
    have H1 := Lib.hid h1
    have HM := Lib.hid hms
    clear h1 hms ho hb hnil hp h h0
    go_wp2_with (go_at_call 32; refine (sort_none _ _ _ _).mono ?_; rintro e w' ⟨rfl, rfl⟩)
    go_ret
    refine Ret.mk _ ?_
    rw [← HM.out, List.mergeSort_nil]
    exact H1.out
  · have hg' : w1.heap[g]? = some (.cells cur 9 (0, 0)) := hg
    have hH : Sort.Holds encStr w1 g 0 ss.toArray := by
      intro j hj
      have hj' : j < ss.length := by simpa using hj
      have e1 : (ss.map encStr)[j]? = some (encStr ss[j]) := by simp [hj']
      rw [← htake, List.getElem?_take] at e1
      split at e1
      · refine ⟨?_, ?_⟩
        · simp only [World.cell?, hg', Nat.zero_add]
          simpa [hj'] using e1
        · simp [World.frozen?, hg']
      · cases e1
    have hlt := (Array.getElem?_eq_some_iff.1 hg').1
    have HH := Lib.hid hH
    have H1 := Lib.hid h1
    have HM := Lib.hid hms
    have HG := Lib.hid hg'
    have HX := Lib.hid hcs
    have HCm := Lib.hid hcm
    clear h1 hms ho hb hnil hp h hH hg hg' htake hcs hcm
    go_wp2_with (go_at_call 32; refine (sort_calls HH.out hlt hl).mono ?_; rintro e w2 ⟨rfl, nq, os, rfl⟩)
    go_ret
    refine Ret.mk _ ?_
    rw [← HM.out]
    have hml : (ss.mergeSort leB).length = ss.length := (List.mergeSort_perm ss leB).length_eq
    have hcs := HX.out
    obtain ⟨e1, e2⟩ := heap_sorted (n := nq) (d := (ss.mergeSort leB).toArray) (os := os) HG.out
    have := H1.out.own_to (w' := sortWorld encStr w1 g 0 nq (ss.mergeSort leB).toArray os) (v' := .slice (some ⟨g, 0, none⟩) ss.length cap) (xs' := (ss.mergeSort leB).map encStr) rfl (by simp [hml]) g cap _ rfl e1 hnc HCm.out
      (by simpa [Sort.putCells] using hcs) (by rw [Nat.mul_one, ← hml]; exact sorted_cells (by rw [hml]; omega)) (.inl rfl) (fun k hk hne => e2 k (fun e => hne (by simp [Value.ownBlock, e])) hk)
    unfold namesHP
    rw [hml]
    exact this

def sortedKeys (M : Model) : List (List UInt8) := (keysOf M).mergeSort leB
set_option maxHeartbeats 400000 in
theorem Names_spec {G : Env} {R : HP} {w : World} {b : Nat} {M : Model} (h : Sat G w (strHP b M * R)) (hk : ∀ p ∈ M, p.1.size ≤ 256) (hn : M.length ≤ 1048576) :
    Calls Try.prog 20 #[.pointer (some ⟨b, 0, none⟩)] w (Ret G fun v => namesHP v (sortedKeys M) * (strHP b M * R)) := by
  obtain ⟨r, es, clock, hst, h1⟩ := Sat.str h
  have hc := h1.cell 0
  simp only [List.getElem?_toArray, List.getElem?_cons_zero] at hc
  have h2 := h1.alloc (.cells #[.map (some r)] 54)
  have h3 := h2.ac (B := blk r (.map es clock) * (listHP entHP M es.toList * (blk b (.cells #[.map (some r)] 56 (0, 0)) * R * blk w.heap.size (.cells #[.map (some r)] 54)))) (by ac_rfl)
  obtain ⟨D, hD, hp, hs⟩ := owns h3.blk hst h3.right.left.2 hk hn
  have hm := h2.cell 0
  simp only [List.getElem?_toArray, List.getElem?_cons_zero] at hm
  have hX : Sat G (w.alloc (.cells #[.map (some r)] 54)) (strHP b M * R) := Sat.mkStr hst h2.right
  have hl : (strKeys D).length ≤ 1048576 := by rw [hp.length_eq]; simp [keysOf, hn]
  have hS := SortedFunc_spec hX (by simp) hm hD (by omega) hl
  have HS := Lib.hid hS
  have HP' := Lib.hid hp
  clear h h1 h2 h3 hS hm hX hD hs hst hl hp
  go_enter Try.func20, Try.ntmps20
  go_wp2_with (go_at_call 29; refine (keys_calls _ _).mono ?_; rintro e w' ⟨rfl, rfl⟩)
  refine HS.out.mono ?_
  rintro e w1 ⟨v, rfl, h1⟩
  go_wp2
  go_ret
  refine Ret.mk _ ?_
  unfold sortedKeys
  rw [← mergeSort_of_perm HP'.out]
  exact h1
theorem Names_nil {w : World} : Calls Try.prog 20 #[.pointer none] w fun e w' => e = .returned (.slice none 0 0) ∧ w' = w := by
  go_enter Try.func20, Try.ntmps20
  go_wp2
  go_ret
  exact ⟨rfl, rfl⟩
end Go.Proofs.Ytnjalbgcmgmmeaa
