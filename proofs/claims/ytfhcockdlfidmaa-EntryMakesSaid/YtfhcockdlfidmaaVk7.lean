/- The walk's own words, part 7: arguments of plain types, opened at a row's start. No statement of its own. -/
import Derived.Test.YtfhcockdlfidmaaVk6
import Derived.ChangeArms
import Derived.OpenShut
import Derived.SizedLaws
namespace Go.Vk
open Go.RowKit
variable [Dr]

inductive Ty where
  | int (k : IntKind)
  | bool
  | str
  | slice (t : Ty)
  | pair (a b : Ty)
  | arr (k : IntKind) (n : Nat)

@[reducible] def Ty.Den : Ty → Type
  | .int _ => Int
  | .bool => Bool
  | .str => ByteArray
  | .slice t => List t.Den
  | .pair a b => a.Den × b.Den
  | .arr _ _ => List Int
def Ty.sz : Ty → Nat
  | .pair a b => a.sz + b.sz
  | .arr _ n => n
  | _ => 1
def repTy : (ty : Ty) → Gh → World → ty.Den → List Value → Prop
  | .int k, _, _, x, cs => cs = [.int k x]
  | .bool, _, _, x, cs => cs = [.bool x]
  | .str, _, _, x, cs => cs = [.string x]
  | .slice t, σ, w, xs, cs => ∃ A c, cs = [.slice A xs.length c] ∧ xs.length ≤ c ∧ (0 < xs.length → ∃ ad, A = some ad ∧ ad.block < w.heap.size ∧ σ ad.block = 0 ∧ ∀ j (h : j < xs.length), ∃ cs, repTy t σ w xs[j] cs ∧ ∀ i u, cs[i]? = some u → w.cell? (ad.add (j * t.sz + i)) = some u)
  | .pair a b, σ, w, x, cs => ∃ c1 c2, cs = c1 ++ c2 ∧ repTy a σ w x.1 c1 ∧ repTy b σ w x.2 c2
  | .arr k n, _, _, xs, cs => cs = xs.map (.int k) ∧ xs.length = n
def wfTy : (ty : Ty) → ty.Den → Prop
  | .int k, x => (Lit.int k x).wf = true
  | .bool, _ => True
  | .str, s => s.size ≤ reachBytes
  | .slice t, xs => xs.length ≤ reachBytes ∧ ∀ x ∈ xs, wfTy t x
  | .pair a b, x => wfTy a x.1 ∧ wfTy b x.2
  | .arr k _, xs => ∀ x ∈ xs, (Lit.int k x).wf = true

omit [Dr] in
theorem repTy_len : ∀ (ty : Ty) {σ : Gh} {w : World} {x : ty.Den} {cs : List Value}, repTy ty σ w x cs → cs.length = ty.sz
  | .int _, _, _, _, _, h => by rw [show _ = _ from h]; rfl
  | .bool, _, _, _, _, h => by rw [show _ = _ from h]; rfl
  | .str, _, _, _, _, h => by rw [show _ = _ from h]; rfl
  | .slice _, _, _, _, _, ⟨_, _, h, _⟩ => by rw [h]; rfl
  | .pair a b, _, _, _, _, ⟨c1, c2, h, h1, h2⟩ => by rw [h, List.length_append, repTy_len a h1, repTy_len b h2]; rfl
  | .arr _ _, _, _, _, _, ⟨h, h1⟩ => by rw [h, List.length_map, h1]; rfl
omit [Dr] in
theorem repTy_one : ∀ (ty : Ty) {σ : Gh} {w : World} {x : ty.Den} {cs : List Value}, repTy ty σ w x cs → ∀ u ∈ cs, u.oneCell' = true
  | .int _, _, _, _, _, h, u, hu => by rw [show _ = _ from h] at hu; simp at hu; subst hu; rfl
  | .bool, _, _, _, _, h, u, hu => by rw [show _ = _ from h] at hu; simp at hu; subst hu; rfl
  | .str, _, _, _, _, h, u, hu => by rw [show _ = _ from h] at hu; simp at hu; subst hu; rfl
  | .slice _, _, _, _, _, ⟨_, _, h, _⟩, u, hu => by rw [h] at hu; simp at hu; subst hu; rfl
  | .pair a b, _, _, _, _, ⟨c1, c2, h, h1, h2⟩, u, hu => by
    rw [h, List.mem_append] at hu
    rcases hu with hu | hu
    · exact repTy_one a h1 u hu
    · exact repTy_one b h2 u hu
  | .arr _ _, _, _, _, _, ⟨h, _⟩, u, hu => by rw [h, List.mem_map] at hu; obtain ⟨x, _, rfl⟩ := hu; rfl
theorem repTy_ev : ∀ (ty : Ty) {lo hi : Nat} {σ σ' : Gh} {w w' : World} {x : ty.Den} {cs : List Value}, repTy ty σ w x cs → Ev lo hi σ w σ' w' → 1 ≤ lo → repTy ty σ' w' x cs
  | .int _, _, _, _, _, _, _, _, _, h, _, _ => h
  | .bool, _, _, _, _, _, _, _, _, h, _, _ => h
  | .str, _, _, _, _, _, _, _, _, h, _, _ => h
  | .slice t, lo, hi, σ, σ', w, w', x, cs, ⟨A, c, h, hc, hr⟩, e, hl => ⟨A, c, h, hc, fun hp => by
      obtain ⟨ad, h1, h2, h3, h4⟩ := hr hp
      obtain ⟨k1, k2⟩ := e.keep ad.block h2 (by omega)
      refine ⟨ad, h1, Nat.lt_of_lt_of_le h2 e.size, k1.trans h3, fun j hj => ?_⟩
      obtain ⟨cs, h5, h6⟩ := h4 j hj
      refine ⟨cs, repTy_ev t h5 e hl, fun i u hu => ?_⟩
      rw [World.cell?_of_block (w := w) (by rw [add_block]; exact k2)]
      exact h6 i u hu⟩
  | .pair a b, _, _, _, _, _, _, _, _, ⟨c1, c2, h, h1, h2⟩, e, hl => ⟨c1, c2, h, repTy_ev a h1 e hl, repTy_ev b h2 e hl⟩
  | .arr _ _, _, _, _, _, _, _, _, _, h, _, _ => h
def Ty.kd (ty : Ty) : Kd ty.Den := ⟨ty.sz, repTy ty, repTy_len ty, repTy_one ty, repTy_ev ty⟩

/-! ### a type of the program that is of this form -/
def matchFs (m : TypeId → Ty → Bool) : List Field → Ty → Nat → Bool
  | [f], ty, off => f.offset == off && m f.type ty
  | f :: fs, .pair a b, off => f.offset == off && m f.type a && matchFs m fs b (off + a.sz)
  | _, _, _ => false
def matchB (P : Program) : Nat → TypeId → Ty → Bool
  | 0, _, _ => false
  | n + 1, t, ty => P.cellsOf t == ty.sz && match P.underlying t, ty with
    | some (.struct fs), ty => matchFs (matchB P n) fs.toList ty 0
    | some (.int k), .int k' => decide (k = k')
    | some .bool, .bool => true
    | some .string, .str => true
    | some (.slice e), .slice ty => matchB P n e ty && decide (1 ≤ P.bytesOf e) && decide (1 ≤ ty.sz)
    | some (.array m e), .arr k m' => decide (m = m') && (match P.underlying e with | some (.int k') => decide (k = k') | _ => false) && P.cellsOf e == 1
    | _, _ => false

omit [Dr] in
theorem matchB_sz {P : Program} {n : Nat} {t : TypeId} {ty : Ty} (h : matchB P n t ty = true) : P.cellsOf t = ty.sz := by
  cases n with
  | zero => simp [matchB] at h
  | succ n => simp only [matchB, Bool.and_eq_true] at h; simpa using h.1

section
variable {H : Type} {enc : TypeId × Value → H} {P : Program} {w : World} {sp : Nat → Bool} {held : Bool}

omit [Dr] in
theorem weightsEach_mem {P : Program} : ∀ {ts : List TypeId} {ds : List (DataW H)} {b : Nat}, (DataW.weightsEach P ts ds).all (· ≤ b) = true → ∀ (i : Nat) t d, ts[i]? = some t → ds[i]? = some d → (d.weights P t).all (· ≤ b) = true
  | [], _, _, _, i, t, d, h, _ => by simp at h
  | _ :: _, [], _, _, i, t, d, _, h => by simp at h
  | t0 :: ts, d0 :: ds, b, h, i, t, d, ht, hd => by
    rw [DataW.weightsEach, List.all_append, Bool.and_eq_true] at h
    cases i with
    | zero =>
      simp at ht hd; subst ht; subst hd; exact h.1
    | succ i => exact weightsEach_mem h.2 i t d (by simpa using ht) (by simpa using hd)
omit [Dr] in
theorem weightsAll_mem {P : Program} {e : TypeId} : ∀ {ds : List (DataW H)} {b : Nat}, (DataW.weightsAll P e ds).all (· ≤ b) = true → ∀ d ∈ ds, (d.weights P e).all (· ≤ b) = true
  | d0 :: ds, b, h, d, hd => by
    rw [DataW.weightsAll, List.all_append, Bool.and_eq_true] at h
    rcases List.mem_cons.1 hd with rfl | hd
    · exact h.1
    · exact weightsAll_mem h.2 d hd

omit [Dr] in
theorem cells?_get {base : Nat} {a : Addr} {n : Nat} {cs : List Value} (h : w.cells? base a n = some cs) : cs.length = n ∧ ∀ i u, cs[i]? = some u → w.cell? (a.add i) = some u := by
  unfold World.cells? at h
  split at h
  · have h2 : ∀ (l : List Nat) (cs : List Value), l.mapM (fun i => w.cell? (a.add i)) = some cs → cs.length = l.length ∧ ∀ (i : Nat) (u : Value), cs[i]? = some u → ∃ j, l[i]? = some j ∧ w.cell? (a.add j) = some u := by
      intro l
      induction l with
      | nil => intro cs h; simp at h; subst h; exact ⟨rfl, fun i u h => by simp at h⟩
      | cons j l ih =>
        intro cs h
        rw [List.mapM_cons] at h
        cases hc : w.cell? (a.add j) with
        | none => simp [hc] at h
        | some v =>
          cases hm : l.mapM (fun i => w.cell? (a.add i)) with
          | none => simp [hc, hm] at h
          | some r =>
            simp [hc, hm] at h
            subst h
            obtain ⟨h1, h2⟩ := ih r hm
            refine ⟨by simp [h1], fun i u hu => ?_⟩
            cases i with
            | zero => exact ⟨j, rfl, by simpa [hc] using hu⟩
            | succ i => obtain ⟨k, hk, hk2⟩ := h2 i u (by simpa using hu); exact ⟨k, by simpa using hk, hk2⟩
    obtain ⟨h3, h4⟩ := h2 _ _ h
    refine ⟨by simpa using h3, fun i u hu => ?_⟩
    obtain ⟨j, hj, hc⟩ := h4 i u hu
    have : j = i := by
      rw [List.getElem?_eq_some_iff] at hj
      obtain ⟨_, hj⟩ := hj
      simp at hj
      exact hj.symm
    subst this; exact hc
  · cases h

omit [Dr] in
theorem cell_lt {a : Addr} {u : Value} (h : w.cell? a = some u) : a.block < w.heap.size := by
  unfold World.cell? at h
  cases hb : w.heap[a.block]? with
  | none => simp [hb] at h
  | some o => exact (Array.getElem?_eq_some_iff.1 hb).1

omit [Dr] in
theorem choose_list {α β : Type} {p : α → β → Prop} : ∀ (l : List α), (∀ x ∈ l, ∃ y, p x y) → ∃ ys : List β, ys.length = l.length ∧ ∀ (i : Nat) (x : α) (y : β), l[i]? = some x → ys[i]? = some y → p x y
  | [], _ => ⟨[], rfl, fun i x y h _ => by simp at h⟩
  | x :: l, h => by
    obtain ⟨y, hy⟩ := h x (by simp)
    obtain ⟨ys, h1, h2⟩ := choose_list l (fun z hz => h z (by simp [hz]))
    refine ⟨y :: ys, by simp [h1], fun i a b ha hb => ?_⟩
    cases i with
    | zero => simp at ha hb; subst ha; subst hb; exact hy
    | succ i => exact h2 i a b (by simpa using ha) (by simpa using hb)

omit [Dr] in
theorem open_ty : ∀ (n : Nat) (ty : Ty) (t : TypeId) (fuel : Nat) (cs : List Value) (x : DataW H × List MemPlace), matchB P n t ty = true → DataW.trod enc P w 0 sp held fuel t cs = some x → (x.1.weights P t).all (· ≤ reachBytes) = true →
    ∃ v : ty.Den, repTy ty (fun _ => 0) w v cs ∧ wfTy ty v := by
  intro n
  induction n with
  | zero => intro ty t fuel cs x hm; simp [matchB] at hm
  | succ n ih =>
    intro ty t fuel cs x hm hx hwt
    have hsz := matchB_sz hm
    simp only [matchB, Bool.and_eq_true] at hm
    replace hm := hm.2
    cases hu : P.underlying t with
    | none => simp [hu] at hm
    | some d =>
      rw [hu] at hm
      cases d with
      | struct fs =>
        simp only at hm
        obtain ⟨xs, m, rfl, rfl, hcl, hxl, hxs⟩ := DataW.trod_struct hu hx
        have hws : ∀ (i : Nat) (f : Field) (y : DataW H × List MemPlace), fs[i]? = some f → xs[i]? = some y → (y.1.weights P f.type).all (· ≤ reachBytes) = true := by
          intro i f y hf hy
          have hw0 : (DataW.weightsEach P (fs.toList.map (·.type)) (xs.map (·.1))).all (· ≤ reachBytes) = true := by
            have := hwt
            simp only [DataW.weights, hu] at this
            exact this
          exact weightsEach_mem hw0 i f.type y.1 (by simp [hf]) (by simp [hy])
        -- over the fields from the i-th on
        have key : ∀ (l : List Field) (ty : Ty) (off i : Nat), matchFs (matchB P n) l ty off = true → (∀ (j : Nat) (f : Field), l[j]? = some f → fs[i + j]? = some f) → ∃ v : ty.Den, repTy ty (fun _ => 0) w v ((cs.drop off).take ty.sz) ∧ wfTy ty v := by
          intro l
          induction l with
          | nil => intro ty off i h; simp [matchFs] at h
          | cons f l ihl =>
            intro ty off i h hl
            have one : ∀ ty', f.offset = off → matchB P n f.type ty' = true → ∃ v : ty'.Den, repTy ty' (fun _ => 0) w v ((cs.drop off).take ty'.sz) ∧ wfTy ty' v := by
              intro ty' ho hm'
              have hf : fs[i]? = some f := by simpa using hl 0 f rfl
              have h1 := hxs i f hf
              have hlt : i < xs.length := by rw [hxl]; exact (Array.getElem?_eq_some_iff.1 hf).1
              rw [List.getElem?_eq_getElem hlt] at h1
              obtain ⟨v, hv, hwf⟩ := ih ty' f.type m _ _ hm' h1 (hws i f _ hf (List.getElem?_eq_getElem hlt))
              rw [matchB_sz hm', ho] at hv
              exact ⟨v, hv, hwf⟩
            cases l with
            | nil =>
              simp only [matchFs, Bool.and_eq_true, beq_iff_eq] at h
              exact one ty h.1 h.2
            | cons f2 l =>
              cases ty with
              | pair a b =>
                simp only [matchFs, Bool.and_eq_true, beq_iff_eq] at h
                obtain ⟨⟨h1, h2⟩, h3⟩ := h
                obtain ⟨v1, r1, w1⟩ := one a h1 h2
                obtain ⟨v2, r2, w2⟩ := ihl b (off + a.sz) (i + 1) h3 (fun j g hg => by have := hl (j + 1) g (by simpa using hg); rwa [show i + 1 + j = i + (j + 1) by omega])
                refine ⟨(v1, v2), ⟨_, _, ?_, r1, r2⟩, w1, w2⟩
                rw [show (Ty.pair a b).sz = a.sz + b.sz from rfl, List.take_add, List.drop_drop]
              | _ => simp [matchFs] at h
        obtain ⟨v, hv, hwf⟩ := key fs.toList ty 0 0 hm (fun j f hf => by simpa using hf)
        refine ⟨v, ?_, hwf⟩
        rw [List.drop_zero, List.take_of_length_le (by omega)] at hv
        exact hv
      | int k =>
        cases ty <;> simp at hm
        subst hm
        obtain ⟨m, rfl, _, hwf⟩ := DataW.trod_int hu hx
        exact ⟨m, rfl, hwf⟩
      | bool =>
        cases ty <;> simp at hm
        obtain ⟨b, rfl, _⟩ := DataW.trod_bool hu hx
        exact ⟨b, rfl, trivial⟩
      | string =>
        cases ty <;> simp at hm
        obtain ⟨s, rfl, rfl, _⟩ := DataW.trod_string hu hx
        refine ⟨s, rfl, ?_⟩
        simp only [DataW.weights, List.all_cons, List.all_nil, Bool.and_true, decide_eq_true_eq] at hwt
        show s.size ≤ reachBytes
        have : s.data.toList.length = s.size := by rw [Array.length_toList]; rfl
        omega
      | slice e =>
        cases ty with
        | slice ty =>
          simp only [Bool.and_eq_true, decide_eq_true_eq] at hm
          obtain ⟨⟨hm, hby⟩, hzz⟩ := hm
          have hez := matchB_sz hm
          rcases DataW.trod_slice hu hx with ⟨rfl, rfl⟩ | ⟨a, len, cap, elems, rest, m, rfl, rfl, rfl, hb, hlc, hcm, hlen, hel, _, _⟩
          · exact ⟨[], ⟨none, 0, rfl, by simp, fun h => absurd h (by simp)⟩, by simp [wfTy]⟩
          · simp only [DataW.weights, hu, List.all_cons, Bool.and_eq_true, decide_eq_true_eq, List.all_append] at hwt
            obtain ⟨hw1, hw2, _⟩ := hwt
            have hall : ∀ y ∈ (List.range len), ∃ v : ty.Den, ∃ c, w.cells? 0 (a.add (y * P.cellsOf e)) (P.cellsOf e) = some c ∧ repTy ty (fun _ => 0) w v c ∧ wfTy ty v := by
              intro i hi
              have hi' : i < len := by simpa using hi
              have h1 := hel i hi'
              rw [List.getElem?_eq_getElem (by omega)] at h1
              obtain ⟨c, hc, ht⟩ := Option.bind_eq_some_iff.1 h1
              obtain ⟨v, hv, hwf⟩ := ih ty e m c _ hm ht (weightsAll_mem hw2 _ (List.mem_map.2 ⟨_, List.getElem_mem (by omega), rfl⟩))
              exact ⟨v, c, hc, hv, hwf⟩
            obtain ⟨vs, hvl, hvs⟩ := choose_list _ hall
            rw [List.length_range] at hvl
            have hvs' : ∀ i (h : i < vs.length), ∃ c, w.cells? 0 (a.add (i * P.cellsOf e)) (P.cellsOf e) = some c ∧ repTy ty (fun _ => 0) w vs[i] c ∧ wfTy ty vs[i] := fun i h => hvs i i vs[i] (by rw [List.getElem?_range (by omega)]) (List.getElem?_eq_getElem h)
            refine ⟨vs, ⟨some a, cap, by rw [hvl], by omega, fun hp => ?_⟩, ?_, ?_⟩
            · have hpos : ∃ u, ∃ j, w.cell? (a.add j) = some u ∨ ty.sz = 0 := by
                obtain ⟨c, hc, _, _⟩ := hvs' 0 hp
                obtain ⟨h1, h2⟩ := cells?_get hc
                by_cases hz : ty.sz = 0
                · exact ⟨undef, 0, .inr hz⟩
                · have : 0 < c.length := by rw [h1, hez]; omega
                  exact ⟨c[0], (0 * P.cellsOf e), .inl (by have := h2 0 _ (List.getElem?_eq_getElem this); rw [add_add] at this; simpa using this)⟩
              have hblk : a.block < w.heap.size ∨ ty.sz = 0 := by
                obtain ⟨u, j, h | h⟩ := hpos
                · left; have := cell_lt h; rwa [add_block] at this
                · exact .inr h
              rcases hblk with hblk | hz
              · refine ⟨a, rfl, hblk, rfl, fun j hj => ?_⟩
                obtain ⟨c, hc, hr, _⟩ := hvs' j hj
                refine ⟨c, hr, fun i u hu => ?_⟩
                have := (cells?_get hc).2 i u hu
                rw [add_add, hez] at this
                exact this
              · exfalso
                omega
            · show vs.length ≤ reachBytes
              have h2 : (elems.map (·.1)).length + (rest.map (·.1)).length ≥ vs.length := by simp; omega
              have h3 : vs.length * 1 ≤ ((elems.map (·.1)).length + (rest.map (·.1)).length) * P.bytesOf e := Nat.mul_le_mul h2 hby
              omega
            · intro x hx
              obtain ⟨i, hi, rfl⟩ := List.getElem_of_mem hx
              obtain ⟨_, _, _, h⟩ := hvs' i hi
              exact h
        | _ => simp at hm
      | array m e =>
        cases ty with
        | arr k m' =>
          simp only [Bool.and_eq_true, decide_eq_true_eq, beq_iff_eq] at hm
          obtain ⟨⟨rfl, hk⟩, hez⟩ := hm
          cases hue : P.underlying e with
          | none => simp [hue] at hk
          | some de =>
            rw [hue] at hk
            cases de <;> simp at hk
            subst hk
            obtain ⟨xs, q, rfl, rfl, hcl, hxl, hxs⟩ := DataW.trod_array hu hx
            rw [hez] at hxs
            have hint : ∀ i (h : i < m), ∃ v, cs[i]? = some (.int k v) ∧ (Lit.int k v).wf = true := by
              intro i h
              have h1 := hxs i h
              rw [List.getElem?_eq_getElem (by omega)] at h1
              obtain ⟨v, hv, _, hwf⟩ := DataW.trod_int hue h1
              refine ⟨v, ?_, hwf⟩
              have h2 : ((cs.drop (i * 1)).take 1)[0]? = some (.int k v) := by rw [hv]; rfl
              rw [List.getElem?_take] at h2
              simpa using h2
            have hlen : cs.length = m := by rw [hcl, hsz]; rfl
            have hex : ∃ vs : List Int, cs = vs.map (.int k) ∧ ∀ x ∈ vs, (Lit.int k x).wf = true := by
              have : ∀ c ∈ cs, ∃ v, c = Value.int k v ∧ (Lit.int k v).wf = true := by
                intro c hc
                obtain ⟨i, hi, rfl⟩ := List.getElem_of_mem hc
                obtain ⟨v, hv, hwf⟩ := hint i (by omega)
                rw [List.getElem?_eq_getElem hi] at hv
                exact ⟨v, by simpa using hv, hwf⟩
              clear hint hxs hx hwt hcl hlen
              induction cs with
              | nil => exact ⟨[], rfl, by simp⟩
              | cons c cs ihc =>
                obtain ⟨v, rfl, hwf⟩ := this c (by simp)
                obtain ⟨vs, rfl, hvs⟩ := ihc (fun d hd => this d (by simp [hd]))
                exact ⟨v :: vs, rfl, fun x hx => by rcases List.mem_cons.1 hx with rfl | h; exact hwf; exact hvs x h⟩
            obtain ⟨vs, rfl, hvs⟩ := hex
            exact ⟨vs, ⟨rfl, by simpa using hlen⟩, hvs⟩
        | _ => simp at hm
      | _ => cases ty <;> simp at hm
end

theorem Rd.conv {α : Type} {K K' : Kd α} {σ : Gh} {t : Nat} {w : World} {A : Option Addr} {xs : List α} (hsz : K.sz = K'.sz) (hc : ∀ σ w x cs, K.rep σ w x cs → K'.rep σ w x cs) (h : Rd K σ t w A xs) : Rd K' σ t w A xs := fun hp => by
  obtain ⟨ad, h1, h2, h3, h4⟩ := h hp
  refine ⟨ad, h1, h2, h3, fun j hj => ?_⟩
  obtain ⟨cs, h5, h6⟩ := h4 j hj
  exact ⟨cs, hc _ _ _ _ h5, fun i u hu => by rw [← hsz]; exact h6 i u hu⟩
omit [Dr] in
theorem arr_of {cs : Array Value} {l : List Value} (h : (Value.agg cs).cells.toList = l) : cs = l.toArray := by
  rw [← h]; rfl
end Go.Vk
