/- The abstract machine, part 10: code is walked as it says. No statement of its own. -/
import Derived.Test.YtfhcockdlfidmaaAm9
import Derived.LoopN
namespace Go.Am
open Go.Vk Go.RowKit
set_option linter.unusedVariables false
set_option linter.unusedSimpArgs false
variable [Dr]

section
variable {P : Program} {E : Env} {hs : List (Hnd P)} {an : List LAnn}
omit [Dr] in
theorem set_keep {n b : Nat} {H s2 : List AB} {y0 : AB} (hok : (Nat.blt b n && unlocked H b) = true) : s2.length ≤ (s2.set b y0).length ∧ ∀ (i : Nat) z y, H[i]? = some (.lock z) → s2[i]? = some y → (s2.set b y0)[i]? = some y := by
  refine ⟨by simp, fun i z y hl h => ?_⟩
  simp only [Bool.and_eq_true] at hok
  rw [List.getElem?_set]
  by_cases hb : b = i
  · subst hb
    have := hok.2
    unfold unlocked at this
    rw [hl] at this
    cases this
  · rw [if_neg hb]; exact h
omit [Dr] in
theorem putB_keep {n b off : Nat} {ds : List AV} {H s2 : List AB} (hok : (Nat.blt b n && unlocked H b) = true) : s2.length ≤ (putB b off ds s2).length ∧ ∀ (i : Nat) z y, H[i]? = some (.lock z) → s2[i]? = some y → (putB b off ds s2)[i]? = some y := by
  unfold putB
  split
  · exact set_keep hok
  · exact ⟨Nat.le_refl _, fun _ _ _ _ h => h⟩
omit [Dr] in
theorem putB_len {b off : Nat} {ds : List AV} {s2 : List AB} : (putB b off ds s2).length = s2.length := by
  unfold putB; split <;> simp
omit [Dr] in
theorem putB_other {b off i : Nat} {ds : List AV} {s2 : List AB} (h : i ≠ b) : (putB b off ds s2)[i]? = s2[i]? := by
  unfold putB
  split
  · rw [List.getElem?_set, if_neg (fun e => h e.symm)]
  · rfl
omit [Dr] in
theorem unpack1_pres {n : Nat} {H : List AB} {ds : List Tmp} {c : Car} {x : c.Den} {s : List AV × List AB} (hok : carOk n H ds c = true) :
    TPres ds s.1 (unpack1 c x s).1 ∧ s.2.length ≤ (unpack1 c x s).2.length ∧ ∀ (i : Nat) z y, H[i]? = some (.lock z) → s.2[i]? = some y → (unpack1 c x s).2[i]? = some y := by
  cases c with
  | sl t ag T =>
    exact ⟨TPres.put (d := some t) (fun u hu => by injection hu with hu; subst hu; exact isIn_mem.1 hok), Nat.le_refl _, fun i z y _ h => h⟩
  | row t T e =>
    refine ⟨TPres.put (d := some t) (fun u hu => by injection hu with hu; subst hu; exact isIn_mem.1 hok), by simp [unpack1], fun i z y _ h => ?_⟩
    simp only [unpack1]
    rw [List.getElem?_append_left (List.getElem?_eq_some_iff.1 h).1]; exact h
  | blk b C T =>
    refine ⟨.refl, by simp [unpack1], fun i z y hl h => ?_⟩
    simp only [carOk, Bool.and_eq_true] at hok
    simp only [unpack1]
    rw [List.getElem?_set]
    by_cases hb : b = i
    · subst hb
      have := hok.2
      unfold unlocked at this
      rw [hl] at this
      cases this
    · rw [if_neg hb]; exact h
  | rw r T e => exact ⟨.refl, set_keep (n := n) (H := H) hok⟩
  | mp r m => exact ⟨.refl, set_keep (n := n) (H := H) hok⟩
  | opn b C m => exact ⟨.refl, set_keep (n := n) (H := H) hok⟩
  | cl b off T => exact ⟨.refl, putB_keep (n := n) (H := H) hok⟩
  | crow b off T e =>
    obtain ⟨h1, h2⟩ := putB_keep (n := n) (H := H) (off := off) (ds := [.row s.2.length]) (s2 := s.2 ++ [.row T e x]) hok
    refine ⟨.refl, by simp only [unpack1]; rw [putB_len]; simp, fun i z y hl h => h2 i z y hl ?_⟩
    rw [List.getElem?_append_left (List.getElem?_eq_some_iff.1 h).1]; exact h
omit [Dr] in
theorem unpack_pres {n : Nat} {H : List AB} {ds : List Tmp} : ∀ {cs : List Car} {x : CarsDen cs} {s : List AV × List AB}, cs.all (carOk n H ds) = true →
    TPres ds s.1 (unpackC cs x s).1 ∧ s.2.length ≤ (unpackC cs x s).2.length ∧ ∀ (i : Nat) z y, H[i]? = some (.lock z) → s.2[i]? = some y → (unpackC cs x s).2[i]? = some y
  | [], x, s, _ => ⟨.refl, Nat.le_refl _, fun _ _ _ _ h => h⟩
  | [c], x, s, h => unpack1_pres (by simpa using h)
  | c :: d :: l, x, s, h => by
    simp only [List.all_cons, Bool.and_eq_true] at h
    obtain ⟨h1, h2, h3⟩ := unpack1_pres (x := x.1) (s := s) h.1
    obtain ⟨k1, k2, k3⟩ := unpack_pres (cs := d :: l) (x := x.2) (s := unpack1 c x.1 s) (by simp only [List.all_cons, Bool.and_eq_true]; exact h.2)
    exact ⟨h1.trans k1, Nat.le_trans h2 k2, fun i z y hl hy => k3 i z y hl (h3 i z y hl hy)⟩
def blksOf : List Car → List Nat
  | [] => []
  | .blk b _ _ :: l => b :: blksOf l
  | .rw b _ _ :: l => b :: blksOf l
  | .mp b _ :: l => b :: blksOf l
  | .opn b _ _ :: l => b :: blksOf l
  | .cl b _ _ :: l => b :: blksOf l
  | .crow b _ _ _ :: l => b :: blksOf l
  | _ :: l => blksOf l
omit [Dr] in
theorem blks_used {tm : List AV} {H : List AB} {b : Nat} : ∀ {cs : List Car}, b ∈ blksOf cs → b ∈ usedC tm H cs
  | [], h => by simp [blksOf] at h
  | .sl t ag T :: l, h => by simp only [blksOf] at h; simp only [usedC]; exact blks_used h
  | .row t T e :: l, h => by
    simp only [blksOf] at h
    simp only [usedC]
    split
    · exact List.mem_cons_of_mem _ (blks_used h)
    · exact blks_used h
  | .blk b' C T :: l, h => by
    simp only [blksOf, List.mem_cons] at h
    simp only [usedC, List.mem_cons]
    exact h.imp id blks_used
  | .rw b' C T :: l, h => by
    simp only [blksOf, List.mem_cons] at h
    simp only [usedC, List.mem_cons]
    exact h.imp id blks_used
  | .mp b' m :: l, h => by
    simp only [blksOf, List.mem_cons] at h
    simp only [usedC, List.mem_cons]
    exact h.imp id blks_used
  | .opn b' C T :: l, h => by
    simp only [blksOf, List.mem_cons] at h
    simp only [usedC, List.mem_cons]
    exact h.imp id blks_used
  | .cl b' C T :: l, h => by
    simp only [blksOf, List.mem_cons] at h
    simp only [usedC, List.mem_cons]
    exact h.imp id blks_used
  | .crow b' C T _ :: l, h => by
    simp only [blksOf, List.mem_cons] at h
    simp only [usedC, List.mem_cons]
    refine h.imp id fun h => ?_
    have := blks_used (tm := tm) (H := H) h
    split
    · split
      · exact List.mem_cons_of_mem _ this
      · exact this
    · exact this
omit [Dr] in
theorem unpack1_keep {c : Car} {x : c.Den} {s : List AV × List AB} {i : Nat} (hb : i ∉ blksOf [c]) (hi : i < s.2.length) : (unpack1 c x s).2[i]? = s.2[i]? ∧ i < (unpack1 c x s).2.length := by
  cases c with
  | sl t ag T => exact ⟨rfl, hi⟩
  | row t T e => simp only [unpack1]; exact ⟨List.getElem?_append_left hi, by simp; omega⟩
  | blk b C T =>
    simp only [blksOf, List.mem_singleton] at hb
    simp only [unpack1]
    refine ⟨?_, by simpa using hi⟩
    rw [List.getElem?_set, if_neg (fun h => hb h.symm)]
  | rw b T e =>
    simp only [blksOf, List.mem_singleton] at hb
    simp only [unpack1]
    refine ⟨?_, by simpa using hi⟩
    rw [List.getElem?_set, if_neg (fun h => hb h.symm)]
  | mp b m =>
    simp only [blksOf, List.mem_singleton] at hb
    simp only [unpack1]
    refine ⟨?_, by simpa using hi⟩
    rw [List.getElem?_set, if_neg (fun h => hb h.symm)]
  | opn b C m =>
    simp only [blksOf, List.mem_singleton] at hb
    simp only [unpack1]
    refine ⟨?_, by simpa using hi⟩
    rw [List.getElem?_set, if_neg (fun h => hb h.symm)]
  | cl b off T =>
    simp only [blksOf, List.mem_singleton] at hb
    simp only [unpack1]
    exact ⟨putB_other hb, by rw [putB_len]; exact hi⟩
  | crow b off T e =>
    simp only [blksOf, List.mem_singleton] at hb
    simp only [unpack1]
    refine ⟨?_, by rw [putB_len]; simp; omega⟩
    rw [putB_other hb, List.getElem?_append_left hi]
omit [Dr] in
theorem unpack_keep {i : Nat} : ∀ {cs : List Car} {x : CarsDen cs} {s : List AV × List AB}, i ∉ blksOf cs → i < s.2.length → (unpackC cs x s).2[i]? = s.2[i]?
  | [], x, s, _, _ => rfl
  | [c], x, s, hb, hi => (unpack1_keep hb hi).1
  | c :: d :: l, x, s, hb, hi => by
    have hc : i ∉ blksOf [c] := fun h => hb (by cases c <;> simp_all [blksOf])
    have hd : i ∉ blksOf (d :: l) := fun h => hb (by cases c <;> simp_all [blksOf])
    obtain ⟨h1, h2⟩ := unpack1_keep (x := x.1) (s := s) hc hi
    have := unpack_keep (cs := d :: l) (x := x.2) (s := unpack1 c x.1 s) hd h2
    simp only [unpackC]
    rw [this, h1]
omit [Dr] in
theorem packE_sound {e : Exit} {tm : List AV} {H : List AB} : ∀ {es : List (XK × List Car)} {b : ExDen es}, packE es e tm H = some b → ∃ xc ∈ es, e = xc.1.out ∧ ∃ z, packC xc.2 tm H = some z ∧
    ∀ (X : Type) (s : List AV × List AB) (k : Exit → List AV → List AB → Option X), elimE es X b s k = k e (unpackC xc.2 z s).1 (unpackC xc.2 z s).2
  | [], b, h => by simp [packE] at h
  | [x], b, h => by
    simp only [packE] at h
    split at h
    · rename_i hi
      have := XK.is_out hi
      subst this
      exact ⟨x, by simp, rfl, b, h, fun X s k => rfl⟩
    · cases h
  | x :: y :: l, b, h => by
    simp only [packE] at h
    split at h
    · rename_i hi
      have := XK.is_out hi
      subst this
      split at h
      · rename_i z hz
        obtain rfl := Option.some.inj h
        exact ⟨x, by simp, rfl, z, hz, fun X s k => rfl⟩
      · cases h
    · split at h
      · rename_i z hz
        obtain rfl := Option.some.inj h
        obtain ⟨xc, h1, h2, z', h3, h4⟩ := packE_sound hz
        exact ⟨xc, List.mem_cons_of_mem _ h1, h2, z', h3, fun X s k => h4 X s k⟩
      · cases h
omit [Dr] in
theorem carOk_ok {n : Nat} {H : List AB} {ds : List Tmp} {cs : List Car} (h : cs.all (carOk n H ds) = true) : cs.all (Car.ok n) = true := by
  rw [List.all_eq_true] at h ⊢
  intro c hc
  have := h c hc
  cases c <;> simp_all [carOk, Car.ok]

theorem join_sound {kind key : Nat} {ds : List Tmp} {tm : List AV} {H : List AB} {σ : Gh} {τ : Nat → Nat} {β : List Value} {a : Act} {w : World} {X : Type} {x : X} {k : Exit → List AV → List AB → Option X} {body : (Y : Type) → List AB → (Exit → List AV → List AB → Option Y) → Option Y} {Q : Exit → Act → World → Prop} {G : Prop}
    (h : joinW an kind key ds tm H X k body = some x) (hC : Conc E σ τ β ⟨tm, H⟩ a w)
    (hb : ∀ (Y : Type) (y : Y) (H : List AB) (k : Exit → List AV → List AB → Option Y), body Y H k = some y → Conc E σ τ β ⟨tm, H⟩ a w → (∀ e tm' H' σ' τ' β' a' w', k e tm' H' = some y → Went E ds σ β w tm H σ' β' w' tm' H' → Conc E σ' τ' β' ⟨tm', H'⟩ a' w' → Q e a' w') → G)
    (hQ : ∀ e tm' H' σ' τ' β' a' w', k e tm' H' = some x → Went E ds σ β w tm H σ' β' w' tm' H' → Conc E σ' τ' β' ⟨tm', H'⟩ a' w' → Q e a' w') : G := by
  unfold joinW at h
  split at h
  · exact hb X x H k h hC hQ
  rename_i A hA
  split at h
  case h_2 => cases h
  rename_i hok2 hun
  obtain ⟨b, hb', hel⟩ := Option.bind_eq_some_iff.1 h
  have hsz := hC.size
  simp only at hsz
  have hutm : ∀ (t : Nat) x, tm[t]? = some x → x.under β.length := fun t x hx => underL_get (RelL.under hC.tmps) hx
  have huh : ∀ (i : Nat) x, H[i]? = some x → x.under β.length := fun i x hx => by
    obtain ⟨v, hv⟩ : ∃ v, β[i]? = some v := ⟨_, List.getElem?_eq_getElem (by rw [hsz]; exact (List.getElem?_eq_some_iff.1 hx).1)⟩
    exact (hC.heap i x v hx hv).under
  have hgone : ∀ (i : Nat) y, (goneI (usedC tm H A.cs) 0 H)[i]? = some y → y.live = false ∨ (i ∉ usedC tm H A.cs ∧ H[i]? = some y) := by
    intro i y hy
    rw [goneI_get, Nat.zero_add] at hy
    cases hz : H[i]? with
    | none => rw [hz] at hy; simp at hy
    | some z =>
      rw [hz] at hy
      simp only [Option.map_some, Option.some.injEq] at hy
      by_cases hi : i ∈ usedC tm H A.cs
      · rw [if_pos hi] at hy; subst hy; exact .inl rfl
      · rw [if_neg hi] at hy; exact .inr ⟨hi, by rw [hy]⟩
  have hsrc := (mid_in (us := usedC tm H A.cs) (tm1 := tm) hC rfl (fun t x hx => .inr hx)).src
  refine hb _ b _ _ hb' hsrc (fun e tm' H' σ' τ' β' a' w' hk hW hC' => ?_)
  obtain ⟨s2, rfl⟩ := hW.more
  obtain ⟨xc, x1, x2, z, x3, x4⟩ := packE_sound hk
  rw [x4] at hel
  have htm : ∀ (t : Nat) x, (killT ds tm)[t]? = some x → x = .unk ∨ (tm'[t]? = some x ∧ x.under β.length) := by
    intro t x hx
    rcases killT_get _ _ t x hx with h1 | ⟨h1, h2⟩
    · exact .inl h1
    · exact .inr ⟨by rw [hW.tmps.2 t h2]; exact h1, hutm t x h1⟩
  have hlen : (killT ds tm).length = tm'.length := by rw [hW.tmps.1]; exact killT_len _ _
  have hlock : ∀ (i : Nat) y, i ∉ usedC tm H A.cs → H[i]? = some y → H'[i]? = some (.lock y) := by
    intro i y hi hy
    refine hW.heap.2 i y ?_
    rw [lockI_get, Nat.zero_add, hy]
    simp [hi]
  have hokx : xc.2.all (carOk H.length H ds) = true := List.all_eq_true.1 hok2 xc x1
  have hM := mid_of (tm1 := killT ds tm) (H1 := goneI (usedC tm H A.cs) 0 H) hC' hlen (by rw [goneI_len, hsz]) htm (fun i y hy => by
    rcases hgone i y hy with h1 | ⟨h1, h2⟩
    · exact .inl h1
    · exact .inr ⟨huh i y h2, y, hlock i y h1 h2, .inr rfl⟩)
  rw [hsz] at hM
  obtain ⟨τ3, β3, y1, y2⟩ := mid_all hM (carOk_ok hokx) x3
  refine hQ _ _ _ _ _ _ _ _ hel ⟨hW.ev, y1, ⟨?_, fun i z' hz' => ?_⟩, ?_⟩ y2
  · have := (unpack_pres (x := z) (s := (killT ds tm, goneI (usedC tm H A.cs) 0 H)) hokx).2.1
    simp only [goneI_len] at this
    exact this
  · refine (unpack_pres (x := z) (s := (killT ds tm, goneI (usedC tm H A.cs) 0 H)) hokx).2.2 i z' _ hz' ?_
    simp only
    rw [goneI_get, Nat.zero_add, hz']
    have hni : i ∉ usedC tm H A.cs := fun hi => by
      have := List.all_eq_true.1 hun i hi
      unfold unlocked at this
      rw [hz'] at this
      cases this
    simp [hni]
  · have h1 := (unpack_pres (x := z) (s := (killT ds tm, goneI (usedC tm H A.cs) 0 H)) hokx).1
    refine ⟨by rw [h1.1]; exact killT_len _ _, fun t ht => ?_⟩
    rw [h1.2 t ht]
    exact killT_other _ _ t ht

theorem exec_sound : ∀ (c : Code) {tm : List AV} {H : List AB} {σ : Gh} {τ : Nat → Nat} {β : List Value} {a : Act} {w : World} {Q : Exit → Act → World → Prop} {X : Type} {x : X} {k : Exit → List AV → List AB → Option X},
    exec P hs an X c tm H k = some x → Conc E σ τ β ⟨tm, H⟩ a w →
    (∀ e tm' H' σ' τ' β' a' w', k e tm' H' = some x → Went E (asgC c) σ β w tm H σ' β' w' tm' H' → Conc E σ' τ' β' ⟨tm', H'⟩ a' w' → Q e a' w') → c.wp P Q a w
  | .skip, tm, H, σ, τ, β, a, w, Q, X, x, k, h, hC, hQ => wp_skip (hQ _ _ _ _ _ _ _ _ h .refl hC)
  | .region id ops draw, tm, H, σ, τ, β, a, w, Q, X, x, k, h, hC, hQ => by
    simp only [exec] at h
    refine join_sound (ds := dsts ops.toList ops.toList) h hC ?_ hQ
    clear h hC hQ
    intro Y y H k h hC hQ
    split at h
    · have := wp_region_lit (id := id) (regX_sound (Q := Q) ops.toList h hC (fun tm' H' σ' τ' β' a' w' hk hW hC' => hQ _ _ _ _ _ _ _ _ hk hW hC'))
      simpa using this
    · have := regD_sound (Q := Q) (id := id) h hC (fun tm' H' σ' τ' β' a' w' hk hW hC' => hQ _ _ _ _ _ _ _ _ hk hW hC')
      simpa using this
  | .seq c d, tm, H, σ, τ, β, a, w, Q, X, x, k, h, hC, hQ => by
    simp only [exec] at h
    refine wp_seq (exec_sound c h hC (fun e tm' H' σ' τ' β' a' w' hk hW hC' => ?_))
    have hW1 := hW.mono (ds' := asgC (.seq c d)) (fun t ht => List.mem_append_left _ ht)
    cases e with
    | normal =>
      exact exec_sound d hk hC' (fun e tm'' H'' σ'' τ'' β'' a'' w'' hk' hW' hC'' => hQ _ _ _ _ _ _ _ _ hk' (hW1.trans (hW'.mono (fun t ht => List.mem_append_right _ ht))) hC'')
    | exit id => exact hQ _ _ _ _ _ _ _ _ hk hW1 hC'
    | goto l => exact hQ _ _ _ _ _ _ _ _ hk hW1 hC'
    | ret => exact hQ _ _ _ _ _ _ _ _ hk hW1 hC'
    | panic ch => exact hQ _ _ _ _ _ _ _ _ hk hW1 hC'
    | outgrown => exact hQ _ _ _ _ _ _ _ _ hk hW1 hC'
  | .cond c d e, tm, H, σ, τ, β, a, w, Q, X, x, k, h, hC, hQ => by
    simp only [exec] at h
    refine join_sound h hC ?_ hQ
    clear h hC hQ
    intro Y y H k h hC hQ
    split at h
    · rename_i t
      split at h
      · rename_i b ht
        obtain ⟨u, h1, h2⟩ := RelL.get hC.tmps ht
        simp only [Rel] at h2
        subst h2
        have hr : a.eval (.tmp t) = .bool b := by
          have h1' := h1
          rw [Array.getElem?_toList] at h1'
          simp [Act.eval, Array.getD_eq_getD_getElem?, h1']
        have hk := hC.known h1
        have hT : ∀ b, TPres (asgC (.cond (.tmp t) d e)) tm (tm.set t (.val (.bool b))) := fun b => TPres.put (d := some t) (fun s hs => by injection hs with hs; subst hs; simp [asgC])
        cases b with
        | true => exact wp_cond_true hr (exec_sound d h hk (fun e' tm' H' σ' τ' β' a' w' hk hW hC' => hQ _ _ _ _ _ _ _ _ hk (Went.trans ⟨.refl, ⟨[], by simp⟩, .refl H, hT _⟩ (hW.mono (fun t ht => by simp [asgC, ht]))) hC'))
        | false => exact wp_cond_false hr (exec_sound e h hk (fun e' tm' H' σ' τ' β' a' w' hk hW hC' => hQ _ _ _ _ _ _ _ _ hk (Went.trans ⟨.refl, ⟨[], by simp⟩, .refl H, hT _⟩ (hW.mono (fun t ht => by simp [asgC, ht]))) hC'))
      · cases h
    · rename_i b
      cases b with
      | true => exact wp_cond_true rfl (exec_sound d h hC (fun e' tm' H' σ' τ' β' a' w' hk hW hC' => hQ _ _ _ _ _ _ _ _ hk (hW.mono (fun t ht => by simp [asgC, ht])) hC'))
      | false => exact wp_cond_false rfl (exec_sound e h hC (fun e' tm' H' σ' τ' β' a' w' hk hW hC' => hQ _ _ _ _ _ _ _ _ hk (hW.mono (fun t ht => by simp [asgC, ht])) hC'))
    · cases h
  | .block id c, tm, H, σ, τ, β, a, w, Q, X, x, k, h, hC, hQ => by
    simp only [exec] at h
    refine join_sound (ds := asgC (.block id c)) h hC ?_ hQ
    clear h hC hQ
    intro Y y H k h hC hQ
    refine wp_block (exec_sound c h hC (fun e tm' H' σ' τ' β' a' w' hk hW hC' => ?_))
    cases e with
    | exit id' =>
      simp only at hk
      unfold Exit.inBlock
      split at hk
      · rename_i hb
        simp only
        rw [if_pos (Nat.eq_of_beq_eq_true hb)]
        exact hQ _ _ _ _ _ _ _ _ hk hW hC'
      · rename_i hb
        simp only
        rw [if_neg (Nat.ne_of_beq_eq_false hb)]
        exact hQ _ _ _ _ _ _ _ _ hk hW hC'
    | normal => exact hQ _ _ _ _ _ _ _ _ hk hW hC'
    | goto l => exact hQ _ _ _ _ _ _ _ _ hk hW hC'
    | ret => exact hQ _ _ _ _ _ _ _ _ hk hW hC'
    | panic ch => exact hQ _ _ _ _ _ _ _ _ hk hW hC'
    | outgrown => exact hQ _ _ _ _ _ _ _ _ hk hW hC'
  | .exit id, tm, H, σ, τ, β, a, w, Q, X, x, k, h, hC, hQ => wp_exit (hQ _ _ _ _ _ _ _ _ h .refl hC)
  | .ret, tm, H, σ, τ, β, a, w, Q, X, x, k, h, hC, hQ => wp_ret (hQ _ _ _ _ _ _ _ _ h .refl hC)
  | .loop c, tm, H, σ, τ, β, a, w, Q, X, x, k, h, hC, hQ => by
    simp only [exec] at h
    split at h
    · cases h
    rename_i A hA
    split at h
    · rename_i n hn
      have key : ∀ (n : Nat) {tm1 : List AV} {H1 : List AB} {σ1 : Gh} {τ1 : Nat → Nat} {β1 : List Value} {a1 : Act} {w1 : World}, roundsX (exec P hs an X c) n tm1 H1 k = some x → Went E (asgC c) σ β w tm H σ1 β1 w1 tm1 H1 → Conc E σ1 τ1 β1 ⟨tm1, H1⟩ a1 w1 → Code.rounds P c Q n a1 w1 := by
        intro n
        induction n with
        | zero => intro tm1 H1 σ1 τ1 β1 a1 w1 h; simp [roundsX] at h
        | succ n ih =>
          intro tm1 H1 σ1 τ1 β1 a1 w1 h hW hC1
          rw [rounds_succ]
          simp only [roundsX] at h
          refine exec_sound c h hC1 (fun e tm' H' σ' τ' β' a' w' hk hW' hC' => ?_)
          have hW2 := hW.trans hW'
          cases e with
          | normal => exact ih hk hW2 hC'
          | exit id => exact hQ _ _ _ _ _ _ _ _ hk hW2 hC'
          | goto l => exact hQ _ _ _ _ _ _ _ _ hk hW2 hC'
          | ret => exact hQ _ _ _ _ _ _ _ _ hk hW2 hC'
          | panic ch => exact hQ _ _ _ _ _ _ _ _ hk hW2 hC'
          | outgrown => exact hQ _ _ _ _ _ _ _ _ hk hW2 hC'
      exact wp_loop_rounds (n + 1) (key (n + 1) h .refl hC)
    split at h
    · rename_i hok1 hok2 hun
      split at h
      · cases h
      rename_i s0 hs0
      obtain ⟨b, hb, hel⟩ := Option.bind_eq_some_iff.1 h
      have hsz := hC.size
      simp only at hsz
      have hutm : ∀ (t : Nat) x, tm[t]? = some x → x.under β.length := fun t x hx => underL_get (RelL.under hC.tmps) hx
      have huh : ∀ (i : Nat) x, H[i]? = some x → x.under β.length := fun i x hx => by
        obtain ⟨v, hv⟩ : ∃ v, β[i]? = some v := ⟨_, List.getElem?_eq_getElem (by rw [hsz]; exact (List.getElem?_eq_some_iff.1 hx).1)⟩
        exact (hC.heap i x v hx hv).under
      have hgone : ∀ (i : Nat) y, (goneI (usedC tm H A.cs) 0 H)[i]? = some y → y.live = false ∨ (i ∉ usedC tm H A.cs ∧ H[i]? = some y) := by
        intro i y hy
        rw [goneI_get, Nat.zero_add] at hy
        cases hz : H[i]? with
        | none => rw [hz] at hy; simp at hy
        | some z =>
          rw [hz] at hy
          simp only [Option.map_some, Option.some.injEq] at hy
          by_cases hi : i ∈ usedC tm H A.cs
          · rw [if_pos hi] at hy; subst hy; exact .inl rfl
          · rw [if_neg hi] at hy; exact .inr ⟨hi, by rw [hy]⟩
      refine wp_loopO _ (fun s a1 w1 => ∃ σ1 τ1 β1, EvT (Rng E) σ w σ1 w1 ∧ (∃ s', β1 = β ++ s') ∧ Conc E σ1 τ1 β1 ⟨(unpackC A.cs s (killT (asgC c) tm, (goneI (usedC tm H A.cs) 0 H).map .lock)).1, (unpackC A.cs s (killT (asgC c) tm, (goneI (usedC tm H A.cs) 0 H).map .lock)).2⟩ a1 w1) hb ?_ ?_
      · have hM := mid_in (us := usedC tm H A.cs) (tm1 := killT (asgC c) tm) hC (killT_len _ _) (fun t x hx => (killT_get _ _ t x hx).imp id (fun h => h.1))
        rw [hsz] at hM
        obtain ⟨τ2, β2, h1, h2⟩ := mid_all hM (carOk_ok hok1) hs0
        exact ⟨σ, τ2, β2, .refl, h1, h2⟩
      · rintro s a1 w1 ⟨σ1, τ1, β1, hev1, ⟨s1, rfl⟩, hC1⟩ o ho
        refine exec_sound c ho hC1 (fun e tm' H' σ' τ' β' a' w' hk hW hC' => ?_)
        obtain ⟨s2, rfl⟩ := hW.more
        rw [List.append_assoc] at hC'
        have htm : ∀ (t : Nat) x, (killT (asgC c) tm)[t]? = some x → x = .unk ∨ (tm'[t]? = some x ∧ x.under β.length) := by
          intro t x hx
          rcases killT_get _ _ t x hx with h1 | ⟨h1, h2⟩
          · exact .inl h1
          · refine .inr ⟨?_, hutm t x h1⟩
            rw [hW.tmps.2 t h2, (unpack_pres hok1).1.2 t h2]
            exact hx
        have hlen : (killT (asgC c) tm).length = tm'.length := by rw [hW.tmps.1, (unpack_pres hok1).1.1]
        have hlock : ∀ (i : Nat) y, i ∉ usedC tm H A.cs → H[i]? = some y → H'[i]? = some (.lock y) := by
          intro i y hi hy
          refine hW.heap.2 i y ?_
          rw [unpack_keep (fun h => hi (blks_used h)) (by simp [goneI_len, (List.getElem?_eq_some_iff.1 hy).1])]
          rw [List.getElem?_map, goneI_get, Nat.zero_add, hy]
          simp [hi]
        have hev : EvT (Rng E) σ w σ' w' := hev1.trans hW.ev
        have exitCase : ∀ e', e' = e → (match packE A.es e' tm' H' with | some b => some (Sum.inr b) | none => (none : Option (CarsDen A.cs ⊕ ExDen A.es))) = some o → ∃ b', o = .inr b' ∧ (b' = b → Q e' a' w') := by
          rintro e' rfl hk
          split at hk
          · rename_i b' hb'
            obtain rfl := Option.some.inj hk
            refine ⟨b', rfl, ?_⟩
            rintro rfl
            obtain ⟨xc, x1, x2, z, x3, x4⟩ := packE_sound hb'
            rw [x4] at hel
            have hokx : xc.2.all (carOk H.length H (asgC c)) = true := List.all_eq_true.1 hok2 xc x1
            have hM := mid_of (tm1 := killT (asgC c) tm) (H1 := goneI (usedC tm H A.cs) 0 H) hC' hlen (by rw [goneI_len, hsz]) htm (fun i y hy => by
              rcases hgone i y hy with h1 | ⟨h1, h2⟩
              · exact .inl h1
              · exact .inr ⟨huh i y h2, y, hlock i y h1 h2, .inr rfl⟩)
            rw [hsz] at hM
            obtain ⟨τ3, β3, y1, y2⟩ := mid_all hM (carOk_ok hokx) x3
            refine hQ _ _ _ _ _ _ _ _ hel ⟨hev, y1, ⟨?_, fun i z' hz' => ?_⟩, ?_⟩ y2
            · have := (unpack_pres (x := z) (s := (killT (asgC c) tm, goneI (usedC tm H A.cs) 0 H)) hokx).2.1
              simp only [goneI_len] at this
              exact this
            · refine (unpack_pres (x := z) (s := (killT (asgC c) tm, goneI (usedC tm H A.cs) 0 H)) hokx).2.2 i z' _ hz' ?_
              simp only
              rw [goneI_get, Nat.zero_add, hz']
              have hni : i ∉ usedC tm H A.cs := fun hi => by
                have := List.all_eq_true.1 hun i hi
                unfold unlocked at this
                rw [hz'] at this
                cases this
              simp [hni]
            · have h1 := (unpack_pres (x := z) (s := (killT (asgC c) tm, goneI (usedC tm H A.cs) 0 H)) hokx).1
              refine ⟨by rw [h1.1]; exact killT_len _ _, fun t ht => ?_⟩
              rw [h1.2 t ht]
              exact killT_other _ _ t ht
          · cases hk
        cases e with
        | normal =>
          simp only at hk
          split at hk
          · rename_i s' hs'
            obtain rfl := Option.some.inj hk
            have hM := mid_of (tm1 := killT (asgC c) tm) (H1 := (goneI (usedC tm H A.cs) 0 H).map .lock) hC' hlen (by simp [goneI_len, hsz]) htm (fun i y hy => by
              rw [List.getElem?_map] at hy
              obtain ⟨z, hz, rfl⟩ := Option.map_eq_some_iff.1 hy
              rcases hgone i z hz with h1 | ⟨h1, h2⟩
              · exact .inl h1
              · exact .inr ⟨huh i z h2, z, hlock i z h1 h2, .inl rfl⟩)
            rw [hsz] at hM
            obtain ⟨τ3, β3, y1, y2⟩ := mid_all hM (carOk_ok hok1) hs'
            exact ⟨s', rfl, σ', τ3, β3, hev, y1, y2⟩
          · cases hk
        | exit id => exact exitCase _ rfl hk
        | goto l => exact exitCase _ rfl hk
        | ret => exact exitCase _ rfl hk
        | panic ch => exact exitCase _ rfl hk
        | outgrown => exact exitCase _ rfl hk
    · cases h
  | .rangeFunc .., tm, H, σ, τ, β, a, w, Q, X, x, k, h, hC, hQ => by simp [exec] at h
  | .scope c, tm, H, σ, τ, β, a, w, Q, X, x, k, h, hC, hQ => by simp [exec] at h
  | .label l, tm, H, σ, τ, β, a, w, Q, X, x, k, h, hC, hQ => by simp [exec] at h
  | .goto l, tm, H, σ, τ, β, a, w, Q, X, x, k, h, hC, hQ => wp_goto (hQ _ _ _ _ _ _ _ _ h .refl hC)
  | .refuse s, tm, H, σ, τ, β, a, w, Q, X, x, k, h, hC, hQ => by simp [exec] at h
end
end Go.Am
