/- Maps: what the machine answers. No statement of its own. -/
import Derived.Test.YtfhcockdlfidmaaVk9
namespace Go.Am
open Go.Vk Go.RowKit
set_option linter.unusedVariables false
set_option linter.unusedSimpArgs false

/-- A plain key's type. -/
def keyS (P : Program) (t : TypeId) (K : Ty) : Bool :=
  match P.underlying t, K with
  | some (.int k), .int k' => decide (k = k')
  | some .string, .str => true
  | some .bool, .bool => true
  | _, _ => false
def keyFs (P : Program) : List Field → Nat → Ty → Bool
  | [f], off, K => !(f.name == "_") && (Nat.beq f.offset off && (keyS P f.type K && scalarB P f.type))
  | f :: g :: r, off, .pair A B => (!(f.name == "_") && (Nat.beq f.offset off && (keyS P f.type A && scalarB P f.type))) && keyFs P (g :: r) (off + 1) B
  | _, _, _ => false
/-- A key's type: plain, or a struct of plain ones. -/
def keyB (P : Program) (ka : Bool) (t : TypeId) (K : Ty) : Bool :=
  match ka with
  | false => keyS P t K
  | true => match P.underlying t with
    | some (.struct fs) => !(P.stoodInHeld t) && keyFs P fs.toList 0 K
    | _ => false

section
variable {P : Program} {w : World}
theorem keyS_flat {t : TypeId} {K : Ty} (h : keyS P t K = true) : flatT K = true := by
  unfold keyS at h
  split at h <;> first | rfl | cases h
theorem keyFs_flat : ∀ {fs : List Field} {off : Nat} {K : Ty}, keyFs P fs off K = true → flatT K = true
  | [], _, _, h => by simp [keyFs] at h
  | [f], off, K, h => by
    simp only [keyFs, Bool.and_eq_true] at h
    exact keyS_flat h.2.2.1
  | f :: g :: r, off, K, h => by
    cases K <;> try (simp [keyFs] at h; done)
    rename_i A B
    simp only [keyFs, Bool.and_eq_true] at h
    simp only [flatT, Bool.and_eq_true]
    exact ⟨keyS_flat h.1.2.2.1, keyFs_flat h.2⟩
theorem keyB_flat {ka : Bool} {t : TypeId} {K : Ty} (h : keyB P ka t K = true) : flatT K = true := by
  unfold keyB at h
  cases ka with
  | false => exact keyS_flat h
  | true =>
    simp only at h
    split at h
    · simp only [Bool.and_eq_true] at h; exact keyFs_flat h.2
    · cases h
theorem keyS_one {t : TypeId} {K : Ty} (h : keyS P t K = true) (x : K.Den) : ∃ v, encF K x = [v] ∧ v.oneCell' = true := by
  unfold keyS at h
  split at h
  · exact ⟨_, rfl, rfl⟩
  · exact ⟨_, rfl, rfl⟩
  · exact ⟨_, rfl, rfl⟩
  · cases h
theorem keyS_now {t : TypeId} {K : Ty} (h : keyS P t K = true) : ∃ d, P.underlying t = some d ∧ ∀ x y : K.Den, Instr.sameNow d (valF false K x) (valF false K y) = some (eqT K x y) := by
  unfold keyS at h
  split at h
  · rename_i k k' hu
    obtain rfl := of_decide_eq_true h
    exact ⟨_, hu, fun x y => by simp [valF, encF, Instr.sameNow, eqT]⟩
  · rename_i hu; exact ⟨_, hu, fun x y => rfl⟩
  · rename_i hu; exact ⟨_, hu, fun x y => rfl⟩
  · cases h
theorem keyS_equal {t : TypeId} {K : Ty} (h : keyS P t K = true) (d : Nat) (x y : K.Den) : (Op.equalIn (d + 1) t (valF false K x) (valF false K y)).run P w = .ok (eqT K x y) w := by
  unfold keyS at h
  split at h
  · rename_i k k' hu
    obtain rfl := of_decide_eq_true h
    simp [Op.equalIn, run_underlying hu, valF, encF, eqT]
  · rename_i hu; simp [Op.equalIn, run_underlying hu, valF, encF, eqT]
  · rename_i hu; simp [Op.equalIn, run_underlying hu, valF, encF, eqT]
  · cases h
theorem keyS_check {t : TypeId} {K : Ty} (h : keyS P t K = true) (b : Bool) (n : Nat) (x : K.Den) : (Instr.checkKey b (n + 1) t (valF false K x)).run P w = .ok () w := by
  unfold keyS at h
  unfold Instr.checkKey
  split at h
  · rename_i k k' hu; simp [run_underlying hu, valF, encF]
  · rename_i hu; simp [run_underlying hu, valF, encF]
  · rename_i hu; simp [run_underlying hu, valF, encF]
  · cases h
theorem part_scalar {t : TypeId} {cs : Array Value} {off : Nat} {v : Value} (hs : scalarB P t = true) (h : cs[off]? = some v) : (part t cs off).run P w = .ok v w := by
  simp [part, run_isAgg_false hs, h]
theorem keyFs_equal {d : Nat} : ∀ {fs : List Field} {off : Nat} {K : Ty} {xs ys : Array Value} {x y : K.Den}, keyFs P fs off K = true → xs.toList.drop off = encF K x → ys.toList.drop off = encF K y → (Op.eqFields (d + 1) xs ys fs).run P w = .ok (eqT K x y) w
  | [], _, _, _, _, _, _, h, _, _ => by simp [keyFs] at h
  | [f], off, K, xs, ys, x, y, h, hx, hy => by
    simp only [keyFs, Bool.and_eq_true, Bool.not_eq_true'] at h
    obtain ⟨h1, h2, h3, h4⟩ := h
    obtain rfl := Nat.eq_of_beq_eq_true h2
    obtain ⟨v, e1, _⟩ := keyS_one h3 x
    obtain ⟨u, e2, _⟩ := keyS_one h3 y
    have gx : xs[f.offset]? = some v := by
      have : (xs.toList.drop f.offset)[0]? = some v := by rw [hx, e1]; rfl
      simpa using this
    have gy : ys[f.offset]? = some u := by
      have : (ys.toList.drop f.offset)[0]? = some u := by rw [hy, e2]; rfl
      simpa using this
    have hv : valF false K x = v := by simp [valF, e1]
    have hu : valF false K y = u := by simp [valF, e2]
    have he := keyS_equal (w := w) h3 d x y
    rw [hv, hu] at he
    have := eqf1 (P := P) (w := w) (xs := xs) (ys := ys) (fs := []) (s := true) v u h1 (part_scalar h4 gx) (part_scalar h4 gy) he eqf0
    simpa using this
  | f :: g :: r, off, K, xs, ys, x, y, h, hx, hy => by
    cases K <;> try (simp [keyFs] at h; done)
    rename_i A B
    simp only [keyFs, Bool.and_eq_true, Bool.not_eq_true'] at h
    obtain ⟨⟨h1, h2, h3, h4⟩, h5⟩ := h
    obtain rfl := Nat.eq_of_beq_eq_true h2
    obtain ⟨v, e1, _⟩ := keyS_one h3 x.1
    obtain ⟨u, e2, _⟩ := keyS_one h3 y.1
    simp only [encF, e1, e2] at hx hy
    have gx : xs[f.offset]? = some v := by
      have : (xs.toList.drop f.offset)[0]? = some v := by rw [hx]; rfl
      simpa using this
    have gy : ys[f.offset]? = some u := by
      have : (ys.toList.drop f.offset)[0]? = some u := by rw [hy]; rfl
      simpa using this
    have dx : xs.toList.drop (f.offset + 1) = encF B x.2 := by rw [← List.drop_drop, hx]; rfl
    have dy : ys.toList.drop (f.offset + 1) = encF B y.2 := by rw [← List.drop_drop, hy]; rfl
    have hv : valF false A x.1 = v := by simp [valF, e1]
    have hu : valF false A y.1 = u := by simp [valF, e2]
    have he := keyS_equal (w := w) h3 d x.1 y.1
    rw [hv, hu] at he
    exact eqf1 v u h1 (part_scalar h4 gx) (part_scalar h4 gy) he (keyFs_equal h5 dx dy)
theorem keyB_equal {t : TypeId} {K : Ty} (h : keyB P true t K = true) (d : Nat) (x y : K.Den) : (Op.equalIn (d + 2) t (valF true K x) (valF true K y)).run P w = .ok (eqT K x y) w := by
  unfold keyB at h
  simp only at h
  split at h
  · rename_i fs hu
    simp only [Bool.and_eq_true, Bool.not_eq_true'] at h
    exact eqA (d := d + 1) hu h.1 (keyFs_equal h.2 (by simp) (by simp))
  · cases h
theorem forIn_units {α : Type} {g : α → PUnit → Sem (ForInStep PUnit)} : ∀ (l : List α), (∀ f ∈ l, (g f ()).run P w = .ok (.yield ()) w) → (forIn l PUnit.unit g).run P w = .ok () w
  | [], _ => rfl
  | f :: l, h => by
    rw [List.forIn_cons]
    simp only [Sem.run_bind]
    rw [h f (by simp)]
    exact forIn_units l (fun q hq => h q (by simp [hq]))
theorem checkFs {b : Bool} {n : Nat} : ∀ {fs : List Field} {off : Nat} {K : Ty} {xs : Array Value} {x : K.Den}, keyFs P fs off K = true → xs.toList.drop off = encF K x →
    ∀ f ∈ fs, f.name ≠ "_" ∧ ∃ v, (part f.type xs f.offset).run P w = .ok v w ∧ (Instr.checkKey b (n + 1) f.type v).run P w = .ok () w
  | [], _, _, _, _, h, _ => by simp [keyFs] at h
  | [f], off, K, xs, x, h, hx => by
    simp only [keyFs, Bool.and_eq_true, Bool.not_eq_true'] at h
    obtain ⟨h1, h2, h3, h4⟩ := h
    obtain rfl := Nat.eq_of_beq_eq_true h2
    obtain ⟨v, e1, _⟩ := keyS_one h3 x
    have gx : xs[f.offset]? = some v := by
      have : (xs.toList.drop f.offset)[0]? = some v := by rw [hx, e1]; rfl
      simpa using this
    have hv : valF false K x = v := by simp [valF, e1]
    have hc := keyS_check (w := w) h3 b n x
    rw [hv] at hc
    intro q hq
    obtain rfl := List.mem_singleton.1 hq
    exact ⟨by simpa using h1, v, part_scalar h4 gx, hc⟩
  | f :: g :: r, off, K, xs, x, h, hx => by
    cases K <;> try (simp [keyFs] at h; done)
    rename_i A B
    simp only [keyFs, Bool.and_eq_true, Bool.not_eq_true'] at h
    obtain ⟨⟨h1, h2, h3, h4⟩, h5⟩ := h
    obtain rfl := Nat.eq_of_beq_eq_true h2
    obtain ⟨v, e1, _⟩ := keyS_one h3 x.1
    simp only [encF, e1] at hx
    have gx : xs[f.offset]? = some v := by
      have : (xs.toList.drop f.offset)[0]? = some v := by rw [hx]; rfl
      simpa using this
    have dx : xs.toList.drop (f.offset + 1) = encF B x.2 := by rw [← List.drop_drop, hx]; rfl
    have hv : valF false A x.1 = v := by simp [valF, e1]
    have hc := keyS_check (w := w) h3 b n x.1
    rw [hv] at hc
    intro q hq
    rcases List.mem_cons.1 hq with rfl | hq
    · exact ⟨by simpa using h1, v, part_scalar h4 gx, hc⟩
    · exact checkFs h5 dx q hq
theorem keyB_check {ka : Bool} {t : TypeId} {K : Ty} (h : keyB P ka t K = true) (b : Bool) (x : K.Den) : (Instr.checkKey b 10000 t (valF ka K x)).run P w = .ok () w := by
  unfold keyB at h
  cases ka with
  | false => exact keyS_check h b 9999 x
  | true =>
    simp only at h
    split at h
    · rename_i fs hu
      simp only [Bool.and_eq_true, Bool.not_eq_true'] at h
      have hf := checkFs (w := w) (b := b) (n := 9998) (xs := (encF K x).toArray) (x := x) h.2 (by simp)
      show (Instr.checkKey b (9999 + 1) t (valF true K x)).run P w = _
      unfold Instr.checkKey
      simp only [Sem.run_bind, run_underlying hu, Result.andThen_ok, valF]
      rw [← Array.forIn_toList]
      rw [forIn_units fs.toList (fun f hm => ?_)]
      · rfl
      · obtain ⟨h1, v, h2, h3⟩ := hf f hm
        simp only [h1, ne_eq, not_false_eq_true, if_true, Sem.run_bind, h2, h3, Result.andThen_ok, Sem.run_pure]
    · cases h
theorem sameS {t : TypeId} {K : Ty} (h : keyS P t K = true) (n : Nat) (x : K.Den) : ∀ v ∈ encF K x, Instr.sameBits n v v = true := by
  intro v hv
  unfold keyS at h
  split at h
  · simp only [encF, List.mem_singleton] at hv; subst hv; cases n <;> simp [Instr.sameBits]
  · simp only [encF, List.mem_singleton] at hv; subst hv; cases n <;> simp [Instr.sameBits, MapKept.bytes_beq]
  · simp only [encF, List.mem_singleton] at hv; subst hv; cases n <;> simp [Instr.sameBits]
  · cases h
theorem sameFs {n : Nat} : ∀ {fs : List Field} {off : Nat} {K : Ty} (x : K.Den), keyFs P fs off K = true → ∀ v ∈ encF K x, Instr.sameBits n v v = true
  | [], _, _, _, h => by simp [keyFs] at h
  | [f], off, K, x, h => by
    simp only [keyFs, Bool.and_eq_true] at h
    exact sameS h.2.2.1 n x
  | f :: g :: r, off, K, x, h => by
    cases K <;> try (simp [keyFs] at h; done)
    rename_i A B
    simp only [keyFs, Bool.and_eq_true] at h
    intro v hv
    simp only [encF, List.mem_append] at hv
    rcases hv with hv | hv
    · exact sameS h.1.2.2.1 n x.1 v hv
    · exact sameFs x.2 h.2 v hv
theorem keyB_same {ka : Bool} {t : TypeId} {K : Ty} (h : keyB P ka t K = true) (x : K.Den) : Instr.sameBits 10000 (valF ka K x) (valF ka K x) = true := by
  unfold keyB at h
  cases ka with
  | false =>
    obtain ⟨v, e1, _⟩ := keyS_one h x
    have := sameS h 10000 x v (by rw [e1]; simp)
    simpa [valF, e1] using this
  | true =>
    simp only at h
    split at h
    · rename_i fs hu
      simp only [Bool.and_eq_true] at h
      show Instr.sameBits (9999 + 1) (valF true K x) (valF true K x) = true
      simp only [valF, Instr.sameBits, beq_self_eq_true, Bool.true_and, List.all_eq_true]
      rintro ⟨a, b⟩ hab
      rw [List.zip_eq_zipWith] at hab
      simp only [List.zipWith_self, List.mem_map] at hab
      obtain ⟨v, hv, e⟩ := hab
      obtain ⟨rfl, rfl⟩ := Prod.mk.inj e
      exact sameFs x h.2 _ hv
    · cases h
theorem keyB_stays {ka : Bool} {t : TypeId} {K : Ty} (h : keyB P ka t K = true) (x : K.Den) : (Instr.keyThatStays (valF ka K x) (valF ka K x)).run P w = .ok (valF ka K x) w := by
  unfold Instr.keyThatStays
  rw [if_pos (keyB_same h x)]
  rfl

/-- Which entry a key has. -/
theorem find_run {ka va : Bool} {t : TypeId} {K V : Ty} (h : keyB P ka t K = true) (key : K.Den) (xs : Mp K V) (j : Nat) :
    (Instr.findKey t (valF ka K key) (ents ka K va V j xs)).run P w = .ok ((mfind K V xs key 0).map fun r => (r.1, valF va V r.2)) w := by
  cases ka with
  | false =>
    have hS : keyS P t K = true := h
    obtain ⟨d, hu, hnow⟩ := keyS_now hS
    have hf : ∀ (xs : Mp K V) (j i : Nat), Instr.findNow d (valF false K key) (ents false K va V j xs) i = some ((mfind K V xs key i).map fun r => (r.1, valF va V r.2)) := by
      intro xs
      induction xs with
      | nil => intro j i; rfl
      | cons o l ih =>
        intro j i
        cases o with
        | none => simp only [ents, mfind]; exact ih (j + 1) i
        | some e =>
          obtain ⟨k', v⟩ := e
          simp only [ents, mfind, Instr.findNow, hnow]
          cases he : eqT K key k' with
          | true => rfl
          | false => exact ih (j + 1) (i + 1)
    exact MapKept.run_findKey hu (hf xs j 0)
  | true =>
    have hb := h
    unfold keyB at h
    simp only at h
    split at h
    case h_2 => cases h
    rename_i fs hu
    have hask : ∀ (xs : Mp K V) (j i : Nat), (Instr.findAsking t (valF true K key) (ents true K va V j xs) i).run P w = .ok ((mfind K V xs key i).map fun r => (r.1, valF va V r.2)) w := by
      intro xs
      induction xs with
      | nil => intro j i; rfl
      | cons o l ih =>
        intro j i
        cases o with
        | none => simp only [ents, mfind]; exact ih (j + 1) i
        | some e =>
          obtain ⟨k', v⟩ := e
          have he : (Op.equal t (valF true K key) (valF true K k')).run P w = .ok (eqT K key k') w := keyB_equal hb 9998 key k'
          simp only [ents, mfind, Instr.findAsking, Sem.run_bind, he, Result.andThen_ok]
          cases heq : eqT K key k' with
          | true => simp
          | false => simpa using ih (j + 1) (i + 1)
    unfold Instr.findKey
    simp only [Sem.run_bind, run_underlying hu, Result.andThen_ok]
    cases hE : ents true K va V j xs with
    | nil =>
      have := hask xs j 0
      rw [hE] at this
      simp only [Instr.findNow, Sem.run_pure]
      exact this
    | cons e l =>
      have hnone : Instr.findNow (.struct fs) (valF true K key) (e :: l) 0 = none := by
        simp [Instr.findNow, Instr.sameNow, valF]
      rw [hnone, ← hE]
      exact hask xs j 0
end
end Go.Am
