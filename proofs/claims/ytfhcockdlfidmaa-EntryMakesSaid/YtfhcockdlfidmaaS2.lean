/- The abstract machine, sorting, part 2: slices.SortFunc as a call. No statement of its own. -/
import Derived.Test.YtfhcockdlfidmaaS1
namespace Go.Am
open Go.Vk Go.RowKit Go.Sort Go.Proofs Go.Shelf
set_option linter.unusedVariables false
set_option linter.unusedSimpArgs false
variable [Dr]

omit [Dr] in
theorem decB_encF {H : List AB} : ∀ (T : Ty) (x : T.Den) (r : List AV), flatT T = true → decB H T ((encF T x).map .val ++ r) = some (x, r)
  | .int k, x, r, _ => by
    simp only [encF, List.map_cons, List.map_nil, List.cons_append, List.nil_append, decB, dec]
    cases k <;> rfl
  | .bool, x, r, _ => rfl
  | .str, x, r, _ => rfl
  | .pair a b, x, r, h => by
    simp only [flatT, Bool.and_eq_true] at h
    simp only [encF, List.map_append, List.append_assoc, decB]
    rw [decB_encF a x.1 _ h.1]
    simp only
    rw [decB_encF b x.2 _ h.2]
  | .slice _, _, _, h => by simp [flatT] at h
  | .arr _ _, _, _, h => by simp [flatT] at h

omit [Dr] in
/-- the world, as what was there and what came -/
theorem world_grown {w w' : World} (ho : w'.os = w.os) (ht : w'.tape = w.tape) (hu : w'.output = w.output) (hd : w.drawn ≤ w'.drawn) (hs : w.heap.size ≤ w'.heap.size) (hk : ∀ b, b < w.heap.size → w'.heap[b]? = w.heap[b]?) :
    w' = grow (w.drewN (w'.drawn - w.drawn)) (w'.heap.extract w.heap.size w'.heap.size) := by
  have hh : w'.heap = w.heap ++ w'.heap.extract w.heap.size w'.heap.size := by
    apply Array.ext_getElem?
    intro i
    rw [Array.getElem?_append]
    by_cases hi : i < w.heap.size
    · rw [if_pos hi, hk i hi]
    · rw [if_neg hi, Array.getElem?_extract]
      by_cases hi2 : i - w.heap.size < min w'.heap.size w'.heap.size - w.heap.size
      · rw [if_pos hi2]
        congr 1; omega
      · rw [if_neg hi2]
        exact Array.getElem?_eq_none (by simp at hi2; omega)
  have hdd : w.drawn + (w'.drawn - w.drawn) = w'.drawn := by omega
  obtain ⟨h', t', d', o', u'⟩ := w'
  obtain ⟨h, t, d, o, u⟩ := w
  dsimp only at ho ht hu hh hdd
  subst ho ht hu
  show World.mk h' _ d' _ _ = World.mk (h ++ _) _ (d + (d' - d)) _ _
  rw [hdd]
  congr 1
/-- A comparison that is walked: what the sort asks of it. -/
theorem cmp_lays (hD : Dr.D) {P : Program} {g : FuncId} {T : Ty} {f : T.Den → T.Den → Option Int} {cf : T.Den → T.Den → Int} {blk off size : Nat} {w : World} (hfl : flatT T = true) (h : HdlVOk P g (hdlV [(true, T), (true, T)] [.sl 0 false (.int .i64)] (fun y => f y.1 y.2))) (hf : ∀ x y, f x y = some (cf x y)) :
    letI := inhT T
    CmpLays P g #[] (encF T) T.sz cf blk off size w := by
  letI := inhT T
  intro m os dk hs x y
  generalize hW : sortWorldK (encF T) T.sz w blk off m dk os = W
  let E : Env := ⟨fun t => t = 0, fun t => t < 2, 2, rfl, fun t h => by subst h; omega, fun t h => h⟩
  have hC : Conc E (fun _ => 1) (fun _ => 0) [] ⟨[], []⟩ ⟨#[], []⟩ W := ⟨rfl, by simp [RelL], rfl, fun i x v hx => by simp at hx, fun i x hx => by simp at hx, fun i j x y hx => by simp at hx⟩
  have hargs : RelL E (fun _ => 1) W [] [.agg ((encF T x).map .val), .agg ((encF T y).map .val)] [.agg (encF T x).toArray, .agg (encF T y).toArray] := by
    simp only [RelL, Rel]
    exact ⟨_, _, rfl, ⟨_, rfl, relL_vals _⟩, _, _, rfl, ⟨_, rfl, relL_vals _⟩, rfl⟩
  have hx : hdlV [(true, T), (true, T)] [.sl 0 false (.int .i64)] (fun y => f y.1 y.2) AV [.agg ((encF T x).map .val), .agg ((encF T y).map .val)] [] some = some (.val (.int .i64 (cf x y))) := by
    have e : ∀ z : T.Den, decBV [] true T (.agg ((encF T z).map .val)) = some z := fun z => by
      have := decB_encF (H := []) T z [] hfl
      rw [List.append_nil] at this
      simp only [decBV, this, whole]
    unfold hdlV
    simp only [decArgs, e]
    rw [hf]
    rfl
  obtain ⟨av, h1, h2⟩ := h _ _ _ _ _ hx
  obtain rfl := Option.some.inj h1
  refine Calls.mono (h2 E _ _ [] [] _ W _ hC hargs) ?_
  rintro e w' ⟨v, σ', rfl, τ', β', _, hev, _, hr⟩
  simp only [Rel] at hr
  refine ⟨by rw [hr], _, _, world_grown hev.os hev.tape hev.output (hev.drawn hD) hev.size (fun b hb => (hev.keep b hb (fun hn => hn ?_)).2)⟩
  show 1 < 2
  omega

/-- slices.SortFunc, of a row with a comparison g. -/
noncomputable def sortHdl (g : FuncId) (T : Ty) (f : T.Den → T.Den → Option Int) : Hdl := fun X args H k =>
  match args with
  | [x, c] => match cloX c with
    | some (g', [], []) => match Nat.beq g' g, x with
      | true, .row r => match H[r]? with
        | some (.row T' e xs) => match tyEq T' T with
          | some ⟨h⟩ => (sortM f (castL h xs)).bind fun ys => k (H.set r (.row T e ys)) (.tup [])
          | none => none
        | _ => none
      | true, .val (.slice none 0 0) => k H (.tup [])
      | _, _ => none
    | _ => none
  | _ => none
omit [Dr] in
theorem flat_cells {T : Ty} (hfl : flatT T = true) (xs : List T.Den) : letI := inhT T; (flatK (encF T) T.sz xs.toArray).toList = xs.flatMap (encF T) := by
  letI := inhT T
  by_cases hz : T.sz = 0
  · have h0 : ∀ x, encF T x = [] := fun x => List.eq_nil_of_length_eq_zero (by rw [encF_len T x hfl, hz])
    have : xs.flatMap (encF T) = [] := by simp [h0]
    rw [this]
    apply List.eq_nil_of_length_eq_zero
    simp [hz]
  · apply List.ext_getElem?
    intro i
    have hlen : (xs.flatMap (encF T)).length = xs.length * T.sz := by
      induction xs with
      | nil => simp
      | cons x xs ih => simp only [List.flatMap_cons, List.length_append, ih, encF_len T x hfl, List.length_cons, Nat.add_mul, Nat.one_mul]; omega
    by_cases hi : i < xs.length * T.sz
    · have hd : i / T.sz < xs.length := (Nat.div_lt_iff_lt_mul (by omega)).2 hi
      have hm : i % T.sz < T.sz := Nat.mod_lt _ (by omega)
      have h1 := get_flatK (encF T) T.sz xs.toArray i (by simpa using hi)
      rw [getElem!_pos _ i (by simpa using hi), getElem!_pos xs.toArray (i / T.sz) (by simpa using hd)] at h1
      rw [Array.getElem?_toList, Array.getElem?_eq_getElem (by simpa using hi), h1]
      simp only [List.getElem_toArray]
      rw [getElem!_pos _ (i % T.sz) (by rw [encF_len T _ hfl]; exact hm)]
      -- the i-th cell lies in element i / sz
      have key : ∀ (xs : List T.Den) (q s : Nat) (hq : q < xs.length) (hs : s < (encF T xs[q]).length), (xs.flatMap (encF T))[q * T.sz + s]? = some ((encF T xs[q])[s]) := by
        intro xs
        induction xs with
        | nil => intro q s hq; simp at hq
        | cons x xs ih =>
          intro q s hq hs
          simp only [List.flatMap_cons]
          cases q with
          | zero =>
            simp only [Nat.zero_mul, Nat.zero_add, List.getElem_cons_zero] at hs ⊢
            rw [List.getElem?_append_left hs, List.getElem?_eq_getElem hs]
          | succ q =>
            simp only [List.getElem_cons_succ] at hs ⊢
            rw [List.getElem?_append_right (by rw [encF_len T x hfl, Nat.add_mul]; omega), encF_len T x hfl]
            rw [show (q + 1) * T.sz + s - T.sz = q * T.sz + s by rw [Nat.add_mul]; omega]
            exact ih q s _ hs
      have := key xs (i / T.sz) (i % T.sz) hd (by rw [encF_len T _ hfl]; exact hm)
      rw [Nat.div_add_mod' i T.sz] at this
      rw [this]
    · rw [List.getElem?_eq_none (by simp; omega), List.getElem?_eq_none (by omega)]
end Go.Am
