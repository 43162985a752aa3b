/- Arguments that came in, read into values of Lean's own. Conditions: none. -/
import Derived.Test.YtnjalbgcmgmmeaaSlMap
import Derived.ProofKit
import Derived.OpenShut
import Derived.Laws.BytesArg
namespace Go.Proofs.Ytnjalbgcmgmmeaa.Sl
open Go.RowKit

/-- v is a slice whose elements read as xs. -/
def rdK {α : Type} (K : α → List Value → HP) (sz : Nat) (v : Value) (xs : List α) : HP where
  p h := ∃ A c, v = .slice A xs.length c ∧ xs.length ≤ c ∧ c ≤ maxLen ∧
    (0 < xs.length → ∃ ad, A = some ad ∧ ∀ j x, xs[j]? = some x → ∃ cs, cs.length = sz ∧ (K x cs).p h ∧ ∀ i u, cs[i]? = some u → fcell h (ad.add (j * sz + i)) = some u)
  up := by
    rintro h h' l ⟨A, c, e, h1, h2, f⟩
    refine ⟨A, c, e, h1, h2, fun hp => ?_⟩
    obtain ⟨ad, ea, g⟩ := f hp
    refine ⟨ad, ea, fun j x hx => ?_⟩
    obtain ⟨cs, hl, hK, hc⟩ := g j x hx
    exact ⟨cs, hl, (K x cs).up _ _ l hK, fun i u hu => fcell_le l (hc i u hu)⟩
theorem rdK_nil {α : Type} (K : α → List Value → HP) (sz : Nat) (h : Frag) : (rdK K sz (.slice none 0 0) ([] : List α)).p h := ⟨none, 0, rfl, Nat.le_refl _, Nat.zero_le _, fun hp => by simp at hp⟩

section
variable {P : Program} {H : Type} {enc : TypeId × Value → H} {w : World} {spare : Nat → Bool} {held : Bool} {fuel : Nat} {cs : List Value} {x : DataW H × List MemPlace}
theorem cells_get {a : Addr} {n : Nat} {cs : List Value} {base : Nat} (h : w.cells? base a n = some cs) : cs.length = n ∧ ∀ i u, cs[i]? = some u → w.cell? (a.add i) = some u := by
  unfold World.cells? at h
  split at h
  · refine ⟨by simpa using mapM_some_length h, fun i u hu => ?_⟩
    have hi : i < n := by
      have := (List.getElem?_eq_some_iff.1 hu).1
      have hl : cs.length = n := by simpa using mapM_some_length h
      omega
    have := mapM_some_get h i i (by simp [hi])
    rw [this]; exact hu
  · cases h
/-- Nothing in it takes more memory than the form lets by. -/
def light {H : Type} (P : Program) (t : TypeId) (d : DataW H) : Prop := ∀ m ∈ d.weights P t, m ≤ 140737488351232
theorem light_all {P : Program} {e : TypeId} : ∀ {l : List (DataW H)} {d : DataW H}, (∀ m ∈ DataW.weightsAll P e l, m ≤ 140737488351232) → d ∈ l → light P e d
  | [], _, _, h => by simp at h
  | x :: l, d, h, hd => by
    simp only [DataW.weightsAll, List.mem_append] at h
    rcases List.mem_cons.1 hd with rfl | hd
    · exact fun m hm => h m (.inl hm)
    · exact light_all (fun m hm => h m (.inr hm)) hd
theorem light_each {P : Program} : ∀ {ts : List TypeId} {l : List (DataW H)} {i : Nat} {t : TypeId} {d : DataW H}, (∀ m ∈ DataW.weightsEach P ts l, m ≤ 140737488351232) → ts[i]? = some t → l[i]? = some d → light P t d
  | [], _, _, _, _, _, h, _ => by simp at h
  | _ :: _, [], _, _, _, _, _, h => by simp at h
  | t :: ts, x :: l, 0, _, _, h, h1, h2 => by
    simp only [DataW.weightsEach, List.mem_append] at h
    simp at h1 h2
    subst h1; subst h2
    exact fun m hm => h m (.inl hm)
  | t :: ts, x :: l, i + 1, _, _, h, h1, h2 => by
    simp only [DataW.weightsEach, List.mem_append] at h
    exact light_each (fun m hm => h m (.inr hm)) (by simpa using h1) (by simpa using h2)
theorem light_slice {P : Program} {t e : TypeId} (ht : P.underlying t = some (.slice e)) {elems spare : List (DataW H)} (h : light P t (.slice elems spare)) :
    (elems.length + spare.length) * P.bytesOf e ≤ 140737488351232 ∧ ∀ d ∈ elems, light P e d := by
  unfold light at h
  simp only [DataW.weights, ht, List.mem_cons, List.mem_append] at h
  exact ⟨h _ (.inl rfl), fun d hd => light_all (fun m hm => h m (.inr (.inl hm))) hd⟩
theorem light_struct {P : Program} {t : TypeId} {fs : Array Field} (ht : P.underlying t = some (.struct fs)) {parts : List (DataW H)} (h : light P t (.agg parts)) {i : Nat} {f : Field} {d : DataW H} (hf : fs[i]? = some f) (hd : parts[i]? = some d) : light P f.type d := by
  unfold light at h
  simp only [DataW.weights, ht] at h
  exact light_each (i := i) h (by simp [hf]) hd
theorem open_rdK {α : Type} {K : α → List Value → HP} {sz B : Nat} {t e : TypeId} (ht : P.underlying t = some (.slice e)) (hsz : P.cellsOf e = sz) (hB : P.bytesOf e = B)
    (hK : ∀ fuel cs x, DataW.trod enc P w 0 spare held fuel e cs = some x → light P e x.1 → ∃ a, (K a cs).p (fr w))
    (h : DataW.trod enc P w 0 spare held fuel t cs = some x) (hlt : light P t x.1) : ∃ v xs, cs = [v] ∧ (rdK K sz v xs).p (fr w) ∧ xs.length * B ≤ 140737488351232 := by
  subst hsz
  subst hB
  rcases DataW.trod_slice ht h with ⟨rfl, _⟩ | ⟨a, len, cap, elems, rest, n, rfl, rfl, rfl, _, hl, hm, hn, he, _⟩
  · exact ⟨_, [], rfl, rdK_nil _ _ _, by simp⟩
  · obtain ⟨hw0, hw1⟩ := light_slice ht hlt
    have hx : ∀ k ≤ len, ∃ xs : List α, xs.length = k ∧ ∀ j x, xs[j]? = some x → ∃ cs, cs.length = P.cellsOf e ∧ (K x cs).p (fr w) ∧ ∀ i u, cs[i]? = some u → fcell (fr w) (a.add (j * P.cellsOf e + i)) = some u := by
      intro k
      induction k with
      | zero => intro _; exact ⟨[], rfl, fun j x hx => by simp at hx⟩
      | succ k ih =>
        intro hk
        obtain ⟨xs, hxl, hxs⟩ := ih (by omega)
        have hek := he k (by omega)
        rw [List.getElem?_eq_getElem (by omega)] at hek
        obtain ⟨cs, hc, ht⟩ := Option.bind_eq_some_iff.1 hek
        obtain ⟨y, hy⟩ := hK _ _ _ ht (hw1 _ (List.mem_map.2 ⟨_, List.getElem_mem (by omega), rfl⟩))
        obtain ⟨hcl, hcc⟩ := cells_get hc
        refine ⟨xs ++ [y], by simp [hxl], fun j x hx => ?_⟩
        by_cases hj : j < xs.length
        · rw [List.getElem?_append_left hj] at hx
          exact hxs j x hx
        · rw [List.getElem?_append_right (by omega)] at hx
          have hj2 : j - xs.length = 0 := by
            have := (List.getElem?_eq_some_iff.1 hx).1
            simp at this; omega
          rw [hj2] at hx
          simp at hx
          subst hx
          have : j = k := by omega
          subst this
          exact ⟨cs, hcl, hy, fun i u hu => by rw [← Addr.add_add]; exact hcc i u hu⟩
    obtain ⟨xs, hxl, hxs⟩ := hx len (Nat.le_refl _)
    subst hxl
    refine ⟨_, xs, rfl, ⟨some a, cap, rfl, hl, hm, fun _ => ⟨a, rfl, hxs⟩⟩, ?_⟩
    simp only [List.length_map] at hw0
    refine Nat.le_trans (Nat.mul_le_mul_right _ ?_) hw0
    omega
end
/-- A row that is owned reads so. -/
theorem rdK_at {α : Type} {K : α → List Value → HP} {sz : Nat} {v : Value} {xs : List α} {h : Frag} (x : (rdK K sz v xs).p h) (k : Nat) (hk : k < xs.length) :
    ∃ ad c cs, v = .slice (some ad) xs.length c ∧ xs.length ≤ c ∧ cs.length = sz ∧ (K xs[k] cs).p h ∧ ∀ i u, cs[i]? = some u → fcell h (ad.add (k * sz + i)) = some u := by
  obtain ⟨A, c, rfl, h1, _, f⟩ := x
  obtain ⟨ad, rfl, g⟩ := f (by omega)
  obtain ⟨cs, hl, hK, hc⟩ := g k _ (List.getElem?_eq_getElem hk)
  exact ⟨ad, c, cs, rfl, h1, hl, hK, hc⟩
/-- The bytes of a slice. -/
def byteK (n : Int) (cs : List Value) : HP := pu (cs = [.int .u8 n] ∧ 0 ≤ n ∧ n ≤ 255)
theorem rd_of_bytes {v : Value} {xs : List Int} {h : Frag} (x : (rdK byteK 1 v xs).p h) : (rd 1 v xs.length (xs.map (Value.int .u8))).p h ∧ ∀ n ∈ xs, 0 ≤ n ∧ n ≤ 255 := by
  obtain ⟨A, c, rfl, h1, _, f⟩ := x
  refine ⟨⟨by simp, A, c, rfl, h1, fun j u hu => ?_⟩, fun n hn => ?_⟩
  · rw [List.getElem?_map, Option.map_eq_some_iff] at hu
    obtain ⟨n, hn, rfl⟩ := hu
    obtain ⟨ad, rfl, g⟩ := f (by have := (List.getElem?_eq_some_iff.1 hn).1; omega)
    obtain ⟨cs, _, ⟨rfl, _⟩, hc⟩ := g j n hn
    exact ⟨ad, rfl, by simpa using hc 0 _ rfl⟩
  · obtain ⟨j, hj, rfl⟩ := List.getElem_of_mem hn
    obtain ⟨ad, rfl, g⟩ := f (by omega)
    obtain ⟨cs, _, ⟨_, hb⟩, _⟩ := g j _ (List.getElem?_eq_getElem hj)
    exact hb
theorem wf_bounds {n : Int} (h : (Lit.int .u8 n).wf = true) : 0 ≤ n ∧ n ≤ 255 := bounds_u8 h
theorem open_byte {P : Program} {H : Type} {enc : TypeId × Value → H} {w : World} {spare : Nat → Bool} {held : Bool} {t : TypeId} (ht : P.underlying t = some (.int .u8)) (fuel : Nat) (cs : List Value) (x : DataW H × List MemPlace)
    (h : DataW.trod enc P w 0 spare held fuel t cs = some x) (_ : light P t x.1) : ∃ a, (byteK a cs).p (fr w) := by
  obtain ⟨n, rfl, _, hw⟩ := DataW.trod_int ht h
  refine ⟨n, rfl, ?_⟩
  have := wf_bounds hw
  exact this
/-- string(b). -/
theorem run_str {P : Program} (src e dst : TypeId) (hs : P.underlying src = some (.slice e)) (he : P.underlying e = some (.int .u8)) (hd : P.underlying dst = some .string) {w : World} {v : Value} {xs : List Int}
    (h : (rd 1 v xs.length (xs.map (Value.int .u8))).p (fr w)) : (convert src dst v).run P w = .ok (.string (strOfNums xs)) w := by
  obtain ⟨_, A, c, rfl, _, hz⟩ := h
  cases A with
  | none =>
    have : xs = [] := by
      cases xs with
      | nil => rfl
      | cons u l => obtain ⟨a, ha, _⟩ := hz 0 (.int .u8 u) rfl; cases ha
    subst this
    rw [run_convert_bytes_string (P := P) w src dst e none _ c hs he hd]
    simp [Conv.bytesToString, strOfNums]
    rfl
  | some a =>
    rw [run_convert_bytes_string (P := P) w src dst e (some a) _ c hs he hd]
    have hl : (loadCells a xs.length).run P w = .ok (xs.map (Value.int .u8)).toArray w := by
      have := run_loadCells_list (P := P) w a (xs.map (Value.int .u8)) (fun j v hj => by
        obtain ⟨a', ea, hc⟩ := hz j v hj
        cases ea; exact hc)
      simpa using this
    rw [run_bytesToString w a xs.length c xs hl, foldl_push_bytes]
    simp [strOfNums]
theorem byte_inj {a b : Int} (ha : 0 ≤ a ∧ a ≤ 255) (hb : 0 ≤ b ∧ b ≤ 255) (h : UInt8.ofNat a.toNat = UInt8.ofNat b.toNat) : a = b := by
  have := congrArg UInt8.toNat h
  simp at this
  omega
theorem strOfNums_inj : ∀ {xs ys : List Int}, (∀ n ∈ xs, 0 ≤ n ∧ n ≤ 255) → (∀ n ∈ ys, 0 ≤ n ∧ n ≤ 255) → strOfNums xs = strOfNums ys → xs = ys := by
  intro xs ys hx hy h
  have h1 : xs.map (fun n => UInt8.ofNat n.toNat) = ys.map (fun n => UInt8.ofNat n.toNat) := by
    have := congrArg (fun b : ByteArray => b.data.toList) h
    simpa [strOfNums] using this
  clear h
  induction xs generalizing ys with
  | nil => cases ys with
    | nil => rfl
    | cons b ys => simp at h1
  | cons a xs ih => cases ys with
    | nil => simp at h1
    | cons b ys =>
      simp only [List.map_cons, List.cons.injEq] at h1
      rw [byte_inj (hx a (by simp)) (hy b (by simp)) h1.1, ih (fun n hn => hx n (by simp [hn])) (fun n hn => hy n (by simp [hn])) h1.2]
theorem Sat.belowOf {W w : World} {R : HP} (h : Sat (env W) w (Sl.ro (fr W) * R)) : Below W.heap.size W w := by
  have hb := h.ro
  have he := h.1
  have hblk : ∀ k, k < W.heap.size → w.heap[k]? = W.heap[k]? := fun k hk => by
    have := hb k W.heap[k] (Array.getElem?_eq_getElem hk)
    rw [Array.getElem?_eq_getElem hk]; exact this
  refine ⟨congrArg Env.os he, congrArg Env.tape he, congrArg Env.output he, ?_, hblk⟩
  by_cases h0 : W.heap.size = 0
  · omega
  · have h1 : w.heap[W.heap.size - 1]? = some (W.heap[W.heap.size - 1]'(by omega)) := (hblk (W.heap.size - 1) (by omega)).trans (Array.getElem?_eq_getElem (by omega))
    have := (Array.getElem?_eq_some_iff.1 h1).1
    omega
end Go.Proofs.Ytnjalbgcmgmmeaa.Sl
