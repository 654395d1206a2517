/- Operations that change places. Every operation does what its step says. -/
import Derived.Test.YtaeanhonfoakeaaK6
section
set_option linter.unusedSimpArgs false
set_option linter.unusedVariables false
set_option linter.constructorNameAsVariable false
namespace Heron
open Go

theorem AX.ev_congr {R R' : Regs} {x : AX} (h : ∀ t, t ∈ x.uses → R t = R' t) : x.ev R = x.ev R' := by
  cases x with
  | t n => exact h n (by simp [AX.uses])
  | c v => rfl

theorem evs_congr {R R' : Regs} : ∀ {l : List AX}, (∀ t, t ∈ l.flatMap AX.uses → R t = R' t) → evs R l = evs R' l
  | [], _ => rfl
  | x :: l, h => by
    unfold evs
    rw [AX.ev_congr (x := x) (fun t ht => h t (by simp [ht])), evs_congr (l := l) (fun t ht => h t (by simp only [List.flatMap_cons, List.mem_append]; exact .inr ht))]

theorem evB_congr {R R' : Regs} {x : Option AX} (h : ∀ t, t ∈ ous [x] → R t = R' t) : evB R x = evB R' x := by
  cases x with
  | none => rfl
  | some x =>
    unfold evB
    simp only []
    rw [AX.ev_congr (x := x) (fun t ht => h t (by simp [ous, ht]))]

theorem parts_congr {R R' : Regs} : ∀ {ps : List (Nat × Nat × AX)}, (∀ t, t ∈ ps.flatMap (fun p => p.2.2.uses) → R t = R' t) → (ps.map fun p => (p.1, p.2.1, p.2.2.ev R)) = ps.map fun p => (p.1, p.2.1, p.2.2.ev R')
  | [], _ => rfl
  | p :: ps, h => by
    simp only [List.map_cons]
    rw [AX.ev_congr (x := p.2.2) (fun t ht => h t (by simp [ht])), parts_congr (ps := ps) (fun t ht => h t (by simp only [List.flatMap_cons, List.mem_append]; exact .inr ht))]

theorem parts2_congr {R R' : Regs} : ∀ {ps : List (Nat × AX)}, (∀ t, t ∈ ps.flatMap (fun p => p.2.uses) → R t = R' t) → (ps.map fun p => (p.1, p.2.ev R)) = ps.map fun p => (p.1, p.2.ev R')
  | [], _ => rfl
  | p :: ps, h => by
    simp only [List.map_cons]
    rw [AX.ev_congr (x := p.2) (fun t ht => h t (by simp [ht])), parts2_congr (ps := ps) (fun t ht => h t (by simp only [List.flatMap_cons, List.mem_append]; exact .inr ht))]

theorem qeval_congr {R R' : Regs} {H : AHeap} {e : QE} (h : ∀ t, t ∈ e.uses → R t = R' t) : qeval R H e = qeval R' H e := by
  cases e <;> simp only [QE.uses, List.mem_append] at h <;> simp only [qeval]
  case pick c a b => rw [AX.ev_congr (x := c) (fun t ht => h t (.inl (.inl ht))), AX.ev_congr (x := a) (fun t ht => h t (.inl (.inr ht))), AX.ev_congr (x := b) (fun t ht => h t (.inr ht))]
  case build zero ps => rw [parts_congr h]
  case sub sz x lo hi mx =>
    rw [AX.ev_congr (x := x) (fun t ht => h t (.inl ht)), evB_congr (x := lo) (fun t ht => h t (.inr (by simp [ous] at ht ⊢; exact .inl ht))), evB_congr (x := hi) (fun t ht => h t (.inr (by simp [ous] at ht ⊢; exact .inr (.inl ht)))),
      evB_congr (x := mx) (fun t ht => h t (.inr (by simp [ous] at ht ⊢; exact .inr (.inr ht))))]
  case asub n x lo hi =>
    rw [AX.ev_congr (x := x) (fun t ht => h t (.inl ht)), evB_congr (x := lo) (fun t ht => h t (.inr (by simp [ous] at ht ⊢; exact .inl ht))), evB_congr (x := hi) (fun t ht => h t (.inr (by simp [ous] at ht ⊢; exact .inr ht)))]
  case subs x lo hi =>
    rw [AX.ev_congr (x := x) (fun t ht => h t (.inl ht)), evB_congr (x := lo) (fun t ht => h t (.inr (by simp [ous] at ht ⊢; exact .inl ht))), evB_congr (x := hi) (fun t ht => h t (.inr (by simp [ous] at ht ⊢; exact .inr ht)))]
  case mkf f caps => rw [evs_congr h]
  case mv x => rw [AX.ev_congr h]
  case un op x => rw [AX.ev_congr h]
  case conv k x => rw [AX.ev_congr h]
  case same x => rw [AX.ev_congr h]
  case b2s x => rw [AX.ev_congr h]
  case load ag x => rw [AX.ev_congr h]
  case nilc x => rw [AX.ev_congr h]
  case fa o x => rw [AX.ev_congr h]
  case fd o ag x => rw [AX.ev_congr h]
  case len x => rw [AX.ev_congr h]
  case lens x => rw [AX.ev_congr h]
  case lenm x => rw [AX.ev_congr h]
  case cap x => rw [AX.ev_congr h]
  case ext x i => rw [AX.ev_congr h]
  case bin op k x y => rw [AX.ev_congr (x := x) (fun t ht => h t (.inl ht)), AX.ev_congr (x := y) (fun t ht => h t (.inr ht))]
  case ia sz x y => rw [AX.ev_congr (x := x) (fun t ht => h t (.inl ht)), AX.ev_congr (x := y) (fun t ht => h t (.inr ht))]
  case iaa n sz x y => rw [AX.ev_congr (x := x) (fun t ht => h t (.inl ht)), AX.ev_congr (x := y) (fun t ht => h t (.inr ht))]
  case ix x y => rw [AX.ev_congr (x := x) (fun t ht => h t (.inl ht)), AX.ev_congr (x := y) (fun t ht => h t (.inr ht))]
  case lk kk z x y ok => rw [AX.ev_congr (x := x) (fun t ht => h t (.inl ht)), AX.ev_congr (x := y) (fun t ht => h t (.inr ht))]
  case mx x y => rw [AX.ev_congr (x := x) (fun t ht => h t (.inl ht)), AX.ev_congr (x := y) (fun t ht => h t (.inr ht))]
  case mn x y => rw [AX.ev_congr (x := x) (fun t ht => h t (.inl ht)), AX.ev_congr (x := y) (fun t ht => h t (.inr ht))]

theorem step_congr {P : Program} {K : AVal → AHeap → Prop} {R R' : Regs} {H : AHeap} {i : AI} (h : ∀ t, t ∈ i.uses → R t = R' t) : step P K R H i = step P K R' H i := by
  cases i <;> simp only [AI.uses, List.mem_append] at h <;> simp only [step]
  case q e => rw [qeval_congr h]
  case box sz x => rw [AX.ev_congr h]
  case bsl sz n z ps => rw [parts2_congr h]
  case s2b x => rw [AX.ev_congr h]
  case mark x => rw [AX.ev_congr h]
  case clr x => rw [AX.ev_congr h]
  case clrs sz z x => rw [AX.ev_congr h]
  case rng x => rw [AX.ev_congr h]
  case nxt x => rw [AX.ev_congr h]
  case eqn n x => rw [AX.ev_congr h]
  case mks a b c x y => rw [AX.ev_congr (x := x) (fun t ht => h t (.inl ht)), AX.ev_congr (x := y) (fun t ht => h t (.inr ht))]
  case store a x y => rw [AX.ev_congr (x := x) (fun t ht => h t (.inl ht)), AX.ev_congr (x := y) (fun t ht => h t (.inr ht))]
  case app a b x y => rw [AX.ev_congr (x := x) (fun t ht => h t (.inl ht)), AX.ev_congr (x := y) (fun t ht => h t (.inr ht))]
  case appk a b x y => rw [AX.ev_congr (x := x) (fun t ht => h t (.inl ht)), AX.ev_congr (x := y) (fun t ht => h t (.inr ht))]
  case appn a b x y => rw [AX.ev_congr (x := x) (fun t ht => h t (.inl ht)), AX.ev_congr (x := y) (fun t ht => h t (.inr ht))]
  case appz a b c x y => rw [AX.ev_congr (x := x) (fun t ht => h t (.inl ht)), AX.ev_congr (x := y) (fun t ht => h t (.inr ht))]
  case cpy a x y => rw [AX.ev_congr (x := x) (fun t ht => h t (.inl ht)), AX.ev_congr (x := y) (fun t ht => h t (.inr ht))]
  case ment a b x y => rw [AX.ev_congr (x := x) (fun t ht => h t (.inl ht)), AX.ev_congr (x := y) (fun t ht => h t (.inr ht))]
  case del a x y => rw [AX.ev_congr (x := x) (fun t ht => h t (.inl ht)), AX.ev_congr (x := y) (fun t ht => h t (.inr ht))]
  case mup a x y z => rw [AX.ev_congr (x := x) (fun t ht => h t (.inl (.inl ht))), AX.ev_congr (x := y) (fun t ht => h t (.inl (.inr ht))), AX.ev_congr (x := z) (fun t ht => h t (.inr ht))]
  case est x y z => rw [AX.ev_congr (x := x) (fun t ht => h t (.inl (.inl ht))), AX.ev_congr (x := y) (fun t ht => h t (.inl (.inr ht))), AX.ev_congr (x := z) (fun t ht => h t (.inr ht))]
  case call f as => rw [evs_congr h]
  case qcall f as => rw [evs_congr h]
  case calv f as => rw [AX.ev_congr (x := f) (fun t ht => h t (.inl ht)), evs_congr (l := as) (fun t ht => h t (.inr ht))]
  case qcalv f as => rw [AX.ev_congr (x := f) (fun t ht => h t (.inl ht)), evs_congr (l := as) (fun t ht => h t (.inr ht))]

theorem qeval_deaf {R : Regs} {H H' : AHeap} {e : QE} (h : e.look = false) : qeval R H e = qeval R H' e := by
  cases e <;> first | rfl | (simp [QE.look] at h)

theorem aElems_mono {H H' : AHeap} (hl : H.le H') {sz : Nat} {a : AVal} {es : List AVal} (h : aElems H sz a = some es) : aElems H' sz a = some es := by
  unfold aElems at *
  split at h <;> first | exact h | skip
  all_goals
    split at h
    · rename_i hb
      simp only [hl _ _ hb]
      exact h
    · cases h

theorem qeval_mono {R : Regs} {H H' : AHeap} (hl : H.le H') {e : QE} {v : AVal} (h : qeval R H e = some v) : qeval R H' e = some v := by
  by_cases hlook : e.look = true
  · cases e <;> simp [QE.look] at hlook <;> simp only [qeval] at h ⊢
    case b2s x =>
      obtain ⟨a, ha, h⟩ := obind h
      rw [ha, Option.bind_some]
      split at h
      · cases h
      · rename_i hs
        rw [if_neg hs]
        obtain ⟨es, he, h⟩ := obind h
        rw [aElems_mono hl he, Option.bind_some]
        exact h
    case load ag x =>
      obtain ⟨a, ha, h⟩ := obind h
      rw [ha, Option.bind_some]
      unfold aLoad at *
      split at h
      · split at h
        · rename_i hb; simp only [hl _ _ hb]; exact h
        · cases h
      · exact h
      · cases h
    case lk kk z x k ok =>
      obtain ⟨a, ha, h⟩ := obind h
      obtain ⟨b, hb, h⟩ := obind h
      obtain ⟨c, hc, h⟩ := obind h
      rw [ha, hb, Option.bind_some, Option.bind_some, hc, Option.bind_some]
      obtain ⟨es, he, rfl⟩ := omap h
      have : aEnts H' kk a = some es := by
        unfold aEnts at *
        split at he
        · exact he
        · split at he
          · rename_i hb'; simp only [hl _ _ hb']; exact he
          · cases he
        · cases he
      rw [this]; rfl
    case lenm x =>
      obtain ⟨a, ha, h⟩ := obind h
      rw [ha, Option.bind_some]
      obtain ⟨n, hn, rfl⟩ := omap h
      have : aLenm H' a = some n := by
        unfold aLenm at *
        split at hn
        · exact hn
        · split at hn
          · rename_i hb'; simp only [hl _ _ hb']; exact hn
          · cases hn
        · cases hn
      rw [this]; rfl
  · rw [← qeval_deaf (H := H) (by simpa using hlook)]; exact h

theorem AHeap.le_refl (H : AHeap) : H.le H := fun _ _ h => h
theorem AHeap.le_trans {A B C : AHeap} (h : A.le B) (k : B.le C) : A.le C := fun b o e => k b o (h b o e)
theorem AHeap.le_set {H : AHeap} {b : Nat} {o : AObj} (h : H b = none) : H.le (H.set b o) := by
  intro c x e
  unfold AHeap.set
  by_cases hc : c = b
  · subst hc; rw [h] at e; cases e
  · simp [hc, e]

theorem QCall.mono {P : Program} {f : FuncId} {as : List AVal} {H H' : AHeap} {v : AVal} (hl : H.le H') (h : QCall P f as H v) : QCall P f as H' v :=
  fun H'' hl' K hk => h H'' (AHeap.le_trans hl hl') K hk

/-- A quiet step has one value, and gives it in a larger memory as well. -/
theorem step_quiet {P : Program} {K : AVal → AHeap → Prop} {R : Regs} {H : AHeap} {i : AI} (hq : i.kind ≤ 1) (h : step P K R H i) :
    ∃ v, K v H ∧ ∀ K' H', (i.kind = 0 ∨ H.le H') → K' v H' → step P K' R H' i := by
  cases i <;> simp only [AI.kind] at hq <;> try omega
  case q e =>
    simp only [step] at h ⊢
    cases hv : qeval R H e with
    | none => rw [hv] at h; exact h.elim
    | some v =>
      rw [hv] at h
      refine ⟨v, h, fun K' H' hl hk => ?_⟩
      have : qeval R H' e = some v := by
        rcases hl with hl | hl
        · simp only [AI.kind] at hl
          split at hl
          · cases hl
          · rename_i hlook
            rw [← qeval_deaf (H := H) (by simpa using hlook)]; exact hv
        · exact qeval_mono hl hv
      rw [this]
      exact hk
  case qcall f as =>
    simp only [step] at h ⊢
    unfold qcallK at *
    split at h
    · rename_i l hl
      obtain ⟨v, h1, h2⟩ := h
      refine ⟨v, h2, fun K' H' hle hk => ⟨v, h1.mono (hle.resolve_left (by simp [AI.kind])), hk⟩⟩
    · exact h.elim
  case qcalv f as =>
    simp only [step] at h ⊢
    unfold qcalvK at *
    split at h
    · obtain ⟨h0, v, h1, h2⟩ := h
      refine ⟨v, h2, fun K' H' hle hk => ⟨h0, v, h1.mono (hle.resolve_left (by simp [AI.kind])), hk⟩⟩
    · exact h.elim

/-- What makes memory leaves the old as it is. -/
theorem step_grows {P : Program} {K : AVal → AHeap → Prop} {R : Regs} {H : AHeap} {i : AI} (hq : i.kind ≤ 2) (h : step P K R H i) : step P (fun v H' => K v H' ∧ H.le H') R H i := by
  have hal : ∀ {mk : Nat → AVal} {o : AObj}, allocK mk o K H → allocK mk o (fun v H' => K v H' ∧ H.le H') H := fun ha b hb => ⟨ha b hb, AHeap.le_set hb⟩
  by_cases h1 : i.kind ≤ 1
  · obtain ⟨v, a, b⟩ := step_quiet h1 h
    exact b _ H (.inr H.le_refl) ⟨a, H.le_refl⟩
  · cases i <;> simp only [AI.kind] at hq h1 <;> try omega
    case q e => exfalso; split at h1 <;> omega
    all_goals simp only [step] at h ⊢
    case alloc => exact hal h
    case box => split at h; exact ⟨h.1, hal h.2⟩; exact h
    case bsl => split at h; exact hal h; exact h
    case mks => split at h; exact ⟨h.1, h.2.1, h.2.2.1, hal h.2.2.2⟩; exact h
    case mkm => exact hal h
    case appn =>
      split at h
      · unfold appnK at *
        split at h
        · exact ⟨h.1, fun e => ⟨h.2.1 e, H.le_refl⟩, fun e b cap hb hc => ⟨h.2.2 e b cap hb hc, AHeap.le_set hb⟩⟩
        · exact ⟨h.1, fun e => ⟨h.2.1 e, H.le_refl⟩, fun e b cap hb hc => ⟨h.2.2 e b cap hb hc, AHeap.le_set hb⟩⟩
        · exact ⟨h.1, fun e => ⟨h.2.1 e, H.le_refl⟩, fun e b cap hb hc => ⟨h.2.2 e b cap hb hc, AHeap.le_set hb⟩⟩
        · exact h
      · exact h

theorem putO_ne {R : Regs} {d : Option Nat} {v : AVal} {t : Nat} (h : d ≠ some t) : (R.putO d v) t = R t := by
  cases d with
  | none => rfl
  | some d =>
    show (if t = d then some v else R t) = R t
    rw [if_neg (fun e => h (by rw [e]))]

theorem putO_comm {R : Regs} {x y : Option Nat} {v u : AVal} (h : ∀ d, x = some d → y ≠ some d) : (R.putO x v).putO y u = (R.putO y u).putO x v := by
  cases x with
  | none => rfl
  | some d =>
    cases y with
    | none => rfl
    | some e =>
      funext t
      have hne : d ≠ e := fun e' => h d rfl (by rw [e'])
      simp only [Regs.putO, Regs.put]
      by_cases h1 : t = d <;> by_cases h2 : t = e <;> simp [h1, h2] <;> omega

theorem op_quiet {P : Program} {o : AOper} {N : Regs → AHeap → Prop} {R : Regs} {H : AHeap} (hq : o.i.kind ≤ 1) (h : opW P o N R H) :
    ∃ v, N (R.putO o.d v) H ∧ ∀ N' R' H', (∀ t, t ∈ o.uses → R t = R' t) → (o.i.kind = 0 ∨ H.le H') → N' (R'.putO o.d v) H' → opW P o N' R' H' := by
  unfold opW at h
  cases hg : o.g with
  | none =>
    simp only [hg] at h
    obtain ⟨v, a, b⟩ := step_quiet hq h
    refine ⟨v, a, fun N' R' H' hu hl hn => ?_⟩
    unfold opW
    simp only [hg]
    rw [← step_congr (R := R) (fun t ht => hu t (by simp [AOper.uses, ht]))]
    exact b _ H' hl hn
  | some p =>
    obtain ⟨t, want⟩ := p
    simp only [hg] at h
    have key : ∀ c, R t = some (.raw (.bool c)) → ∀ R' : Regs, (∀ t, t ∈ o.uses → R t = R' t) → R' t = some (.raw (.bool c)) := fun c hc R' hu => by rw [← hu t (by simp [AOper.uses, hg]), hc]
    split at h
    · rename_i c hc
      by_cases hw : c = want
      · simp only [hw, if_true] at h
        obtain ⟨v, a, b⟩ := step_quiet hq h
        refine ⟨v, a, fun N' R' H' hu hl hn => ?_⟩
        unfold opW
        simp only [hg, key c hc R' hu, hw, if_true]
        rw [← step_congr (R := R) (fun t ht => hu t (by simp [AOper.uses, ht]))]
        exact b _ H' hl hn
      · simp only [hw, if_false] at h
        refine ⟨.junk, h, fun N' R' H' hu hl hn => ?_⟩
        unfold opW
        simp only [hg, key c hc R' hu, hw, if_false]
        exact hn
    · exact h.elim

theorem op_apart {P : Program} {y : AOper} {d : Option Nat} {v : AVal} {N : Regs → AHeap → Prop} {R : Regs} {H : AHeap} (hd : ∀ t, d = some t → t ∉ y.uses ∧ y.d ≠ some t) (h : opW P y N (R.putO d v) H) :
    opW P y (fun R' H' => ∃ u, R' = R.putO y.d u ∧ (y.i.kind ≤ 2 → H.le H') ∧ N ((R.putO y.d u).putO d v) H') R H := by
  have hu : ∀ t, t ∈ y.uses → (R.putO d v) t = R t := fun t ht => putO_ne (fun e => (hd t e).1 ht)
  have hcomm : ∀ u, (R.putO d v).putO y.d u = (R.putO y.d u).putO d v := fun u => putO_comm (fun t ht => (hd t ht).2)
  have hstep : step P (setK y.d N (R.putO d v)) (R.putO d v) H y.i → step P (setK y.d (fun R' H' => ∃ u, R' = R.putO y.d u ∧ (y.i.kind ≤ 2 → H.le H') ∧ N ((R.putO y.d u).putO d v) H') R) R H y.i := by
    intro h
    rw [step_congr (R' := R) (fun t ht => hu t (by simp [AOper.uses, ht]))] at h
    by_cases hk : y.i.kind ≤ 2
    · refine step_mono (fun u H' ⟨h1, h2⟩ => ⟨u, rfl, fun _ => h2, ?_⟩) (step_grows hk h)
      rw [← hcomm]; exact h1
    · refine step_mono (fun u H' h1 => ⟨u, rfl, fun h2 => absurd h2 hk, ?_⟩) h
      rw [← hcomm]; exact h1
  unfold opW at h ⊢
  cases hg : y.g with
  | none => simp only [hg] at h ⊢; exact hstep h
  | some p =>
    obtain ⟨t, want⟩ := p
    simp only [hg] at h ⊢
    rw [hu t (by simp [AOper.uses, hg])] at h
    split at h
    · rename_i c hc
      by_cases hw : c = want
      · simp only [hw, if_true] at h ⊢
        exact hstep h
      · simp only [hw, if_false] at h ⊢
        refine ⟨.junk, rfl, fun _ => H.le_refl, ?_⟩
        rw [← hcomm]; exact h
    · exact h.elim

theorem apartA_spec {x y : AOper} (h : apartA x y = true) : (∀ t, x.d = some t → t ∉ y.uses ∧ y.d ≠ some t) ∧ (∀ t, y.d = some t → t ∉ x.uses) := by
  refine ⟨fun d hd => ?_, fun d hd => ?_⟩ <;> simp [apartA, hd] at h
  · exact ⟨h.1.1, h.1.2⟩
  · exact h.2

/-- What makes memory: a value without, or with a new block. -/
theorem step_two {P : Program} {K : AVal → AHeap → Prop} {R : Regs} {H : AHeap} {i : AI} (hq : i.kind = 2) (h : step P K R H i) :
    ∃ (O : Prop) (v0 : AVal) (A : Nat → Prop) (val : Nat → Nat → AVal) (o : AObj), (O → K v0 H) ∧ (∀ b cap, H b = none → A cap → K (val b cap) (H.set b o)) ∧
      ∀ K' H', H.le H' → (O → K' v0 H') → (∀ b cap, H' b = none → A cap → K' (val b cap) (H'.set b o)) → step P K' R H' i := by
  have hal : ∀ {mk : Nat → AVal} {o : AObj}, allocK mk o K H → ∃ (O : Prop) (v0 : AVal) (A : Nat → Prop) (val : Nat → Nat → AVal) (o' : AObj), (O → K v0 H) ∧ (∀ b cap, H b = none → A cap → K (val b cap) (H.set b o')) ∧
      ∀ (K' : AVal → AHeap → Prop) H', H.le H' → (O → K' v0 H') → (∀ b cap, H' b = none → A cap → K' (val b cap) (H'.set b o')) → allocK mk o K' H' :=
    fun {mk o} ha => ⟨False, .junk, fun _ => True, fun b _ => mk b, o, False.elim, fun b _ hb _ => ha b hb, fun K' H' _ _ hk b hb => hk b 0 hb trivial⟩
  cases i <;> simp only [AI.kind] at hq <;> try (exact absurd hq (by decide))
  case q e => exfalso; split at hq <;> omega
  all_goals simp only [step] at h ⊢
  case alloc => exact hal h
  case box =>
    split at h
    · obtain ⟨h1, h2⟩ := h
      obtain ⟨O, v0, A, val, o, a, b, c⟩ := hal h2
      rename_i hx
      exact ⟨O, v0, A, val, o, a, b, fun K' H' hl k1 k2 => ⟨h1, c K' H' hl k1 k2⟩⟩
    · exact h.elim
  case bsl =>
    split at h
    · rename_i hx
      exact hal h
    · exact h.elim
  case mks =>
    split at h
    · obtain ⟨h1, h2, h3, h4⟩ := h
      obtain ⟨O, v0, A, val, o, a, b, c⟩ := hal h4
      exact ⟨O, v0, A, val, o, a, b, fun K' H' hl k1 k2 => ⟨h1, h2, h3, c K' H' hl k1 k2⟩⟩
    · exact h.elim
  case mkm => exact hal h
  case appn sz bytes x y =>
    split at h
    · rename_i a ys hx hy
      obtain ⟨yv, hyv, hys⟩ := obind hy
      have hy' : ∀ H', H.le H' → (y.ev R).bind (aElems H' sz) = some ys := fun H' hl => by rw [hyv, Option.bind_some]; exact aElems_mono hl hys
      have main : ∀ (Z : (AVal → AHeap → Prop) → AHeap → Prop), (∀ K' H', Z K' H' = (room ys.length bytes ∧ (ys = [] → K' a H') ∧ (ys ≠ [] → ∀ b cap, H' b = none → ys.length ≤ cap → K' (.sl b sz 0 ys.length cap) (H'.set b (.rows sz ys))))) → Z K H →
          ∃ (O : Prop) (v0 : AVal) (A : Nat → Prop) (val : Nat → Nat → AVal) (o' : AObj), (O → K v0 H) ∧ (∀ b cap, H b = none → A cap → K (val b cap) (H.set b o')) ∧
            ∀ (K' : AVal → AHeap → Prop) H', H.le H' → (O → K' v0 H') → (∀ b cap, H' b = none → A cap → K' (val b cap) (H'.set b o')) → Z K' H' := by
        intro Z hZ hz
        rw [hZ] at hz
        refine ⟨ys = [], a, fun cap => ys ≠ [] ∧ ys.length ≤ cap, fun b cap => .sl b sz 0 ys.length cap, .rows sz ys, hz.2.1, fun b cap hb hA => hz.2.2 hA.1 b cap hb hA.2, fun K' H' hl k1 k2 => ?_⟩
        rw [hZ]
        exact ⟨hz.1, k1, fun hne b cap hb hc => k2 b cap hb ⟨hne, hc⟩⟩
      have fin : ∃ (O : Prop) (v0 : AVal) (A : Nat → Prop) (val : Nat → Nat → AVal) (o' : AObj), (O → K v0 H) ∧ (∀ b cap, H b = none → A cap → K (val b cap) (H.set b o')) ∧
            ∀ (K' : AVal → AHeap → Prop) H', H.le H' → (O → K' v0 H') → (∀ b cap, H' b = none → A cap → K' (val b cap) (H'.set b o')) → appnK sz bytes a ys K' H' := by
        unfold appnK at h ⊢
        split at h
        · exact main _ (fun _ _ => rfl) h
        · exact main _ (fun _ _ => rfl) h
        · exact main _ (fun _ _ => rfl) h
        · exact h.elim
      obtain ⟨O, v0, A, val, o, e1, e2, e3⟩ := fin
      refine ⟨O, v0, A, val, o, e1, e2, fun K' H' hl k1 k2 => ?_⟩
      rw [hx, hy' H' hl]
      exact e3 K' H' hl k1 k2
    · exact h.elim

theorem op_two {P : Program} {o : AOper} {N : Regs → AHeap → Prop} {R : Regs} {H : AHeap} (hq : o.i.kind = 2) (h : opW P o N R H) :
    ∃ (O : Prop) (v0 : AVal) (A : Nat → Prop) (val : Nat → Nat → AVal) (ob : AObj), (O → N (R.putO o.d v0) H) ∧ (∀ b cap, H b = none → A cap → N (R.putO o.d (val b cap)) (H.set b ob)) ∧
      ∀ (N' : Regs → AHeap → Prop) (R' : Regs) H', (∀ t, t ∈ o.uses → R t = R' t) → H.le H' → (O → N' (R'.putO o.d v0) H') → (∀ b cap, H' b = none → A cap → N' (R'.putO o.d (val b cap)) (H'.set b ob)) → opW P o N' R' H' := by
  unfold opW at h
  cases hg : o.g with
  | none =>
    simp only [hg] at h
    obtain ⟨O, v0, A, val, ob, a, b, c⟩ := step_two hq h
    refine ⟨O, v0, A, val, ob, a, b, fun N' R' H' hu hl k1 k2 => ?_⟩
    unfold opW
    simp only [hg]
    rw [← step_congr (R := R) (fun t ht => hu t (by simp [AOper.uses, ht]))]
    exact c _ H' hl k1 k2
  | some p =>
    obtain ⟨t, want⟩ := p
    simp only [hg] at h
    have key : ∀ c, R t = some (.raw (.bool c)) → ∀ R' : Regs, (∀ t, t ∈ o.uses → R t = R' t) → R' t = some (.raw (.bool c)) := fun c hc R' hu => by rw [← hu t (by simp [AOper.uses, hg]), hc]
    split at h
    · rename_i c hc
      by_cases hw : c = want
      · simp only [hw, if_true] at h
        obtain ⟨O, v0, A, val, ob, a, b, c'⟩ := step_two hq h
        refine ⟨O, v0, A, val, ob, a, b, fun N' R' H' hu hl k1 k2 => ?_⟩
        unfold opW
        simp only [hg, key c hc R' hu, hw, if_true]
        rw [← step_congr (R := R) (fun t ht => hu t (by simp [AOper.uses, ht]))]
        exact c' _ H' hl k1 k2
      · simp only [hw, if_false] at h
        refine ⟨True, .junk, fun _ => False, fun _ _ => .junk, .iter 0 0 [] 0, fun _ => h, fun _ _ _ hf => hf.elim, fun N' R' H' hu hl k1 _ => ?_⟩
        unfold opW
        simp only [hg, key c hc R' hu, hw, if_false]
        exact k1 trivial
    · exact h.elim

theorem AHeap.set_comm {H : AHeap} {a b : Nat} {x y : AObj} (h : a ≠ b) : (H.set a x).set b y = (H.set b y).set a x := by
  funext c
  unfold AHeap.set
  by_cases h1 : c = a <;> by_cases h2 : c = b <;> simp [h1, h2] <;> omega

/-- New memory slides behind new memory. -/
theorem op_slide2 {P : Program} {x y : AOper} {N : Regs → AHeap → Prop} {R : Regs} {H : AHeap} (ha : apartA x y = true) (hk : x.i.kind = 2) (hp : y.plain = true) (h : opW P x (opW P y N) R H) : opW P y (opW P x N) R H := by
  obtain ⟨h1, h2⟩ := apartA_spec ha
  obtain ⟨O, v0, A, val, ob, a, b, c⟩ := op_two hk h
  unfold AOper.plain at hp
  simp only [Bool.and_eq_true, Option.isNone_iff_eq_none] at hp
  obtain ⟨hg, hi⟩ := hp
  have hcomm : ∀ v u, (R.putO x.d v).putO y.d u = (R.putO y.d u).putO x.d v := fun v u => putO_comm (fun t ht => (h1 t ht).2)
  obtain ⟨mk, o', hy⟩ : ∃ (mk : Nat → AVal) (o' : AObj), ∀ (M : Regs → AHeap → Prop) (R : Regs) H, opW P y M R H = allocK mk o' (setK y.d M R) H := by
    unfold opW
    simp only [hg]
    split at hi
    · rename_i sz zero e; exact ⟨mkPtr sz, .rows sz [zero], fun M R H => by rw [e]; rfl⟩
    · rename_i kk e; exact ⟨mkMap, .map kk [] 0, fun M R H => by rw [e]; rfl⟩
    · rename_i sz n zero e; exact ⟨mkSl sz n, .rows sz (List.replicate n zero), fun M R H => by rw [e]; rfl⟩
    · cases hi
  simp only [hy] at a b ⊢
  intro b' hb'
  refine c N _ (H.set b' o') (fun t ht => (putO_ne (fun e => h2 t e ht)).symm) (AHeap.le_set hb') (fun hO => ?_) (fun b0 cap hb0 hA => ?_)
  · have := a hO b' hb'
    unfold setK at this
    rw [hcomm] at this
    exact this
  · have hne : b0 ≠ b' := by
      intro e
      subst e
      simp [AHeap.set] at hb0
    have hb1 : H b0 = none := by
      unfold AHeap.set at hb0
      rw [if_neg hne] at hb0
      exact hb0
    have := b b0 cap hb1 hA b' (by unfold AHeap.set; rw [if_neg (fun e => hne e.symm)]; exact hb')
    unfold setK at this
    rw [hcomm, AHeap.set_comm hne] at this
    exact this

/-- An operation slides behind another. -/
theorem op_slide {P : Program} {x y : AOper} {N : Regs → AHeap → Prop} {R : Regs} {H : AHeap} (ha : apartA x y = true) (hs0 : slidesO x y = true) (h : opW P x (opW P y N) R H) : opW P y (opW P x N) R H := by
  unfold slidesO at hs0
  rw [Bool.or_eq_true] at hs0
  rcases hs0 with hs | hs
  · obtain ⟨h1, h2⟩ := apartA_spec ha
    unfold slides at hs
    simp only [Bool.or_eq_true, Bool.and_eq_true, beq_iff_eq, decide_eq_true_eq] at hs
    obtain ⟨v, a, b⟩ := op_quiet (by omega) h
    refine opW_mono (fun R' H' ⟨u, e1, e2, e3⟩ => ?_) (op_apart h1 a)
    subst e1
    refine b N _ H' (fun t ht => (putO_ne (fun e => h2 t e ht)).symm) ?_ e3
    rcases hs with hs | hs
    · exact .inl hs
    · exact .inr (e2 hs.2)
  · simp only [Bool.and_eq_true, beq_iff_eq] at hs
    exact op_slide2 ha hs.1 hs.2 h

theorem slide_front {P : Program} {p : AOper} {r2 : List AOper} {N : Regs → AHeap → Prop} : ∀ {r1 : List AOper} {R : Regs} {H : AHeap}, (∀ x, x ∈ r1 → apartA x p = true ∧ slidesO x p = true) → opsW P (r1 ++ p :: r2) N R H → opsW P (p :: (r1 ++ r2)) N R H
  | [], R, H, _, h => h
  | x :: r1, R, H, hx, h => by
    have h' : opW P x (opsW P (r1 ++ p :: r2) N) R H := h
    have h2 : opW P x (opW P p (opsW P (r1 ++ r2) N)) R H := opW_mono (fun R H hh => slide_front (fun x hx' => hx x (List.mem_cons_of_mem _ hx')) hh) h'
    exact op_slide (hx x (by simp)).1 (hx x (by simp)).2 h2

theorem ops_slid {P : Program} {f : Nat → AOper} {N : Regs → AHeap → Prop} {r π : List Nat} (h : Slid (fun i j => apartA (f i) (f j) = true ∧ slidesO (f i) (f j) = true) r π) :
    ∀ {R : Regs} {H : AHeap}, opsW P (r.map f) N R H → opsW P (π.map f) N R H := by
  induction h with
  | nil => exact fun h => h
  | cons hx _ ih =>
    intro R H h
    rw [List.map_append, List.map_cons] at h
    have := slide_front (fun x hx' => by
      obtain ⟨i, hi, rfl⟩ := List.mem_map.1 hx'
      exact hx i hi) h
    rw [← List.map_append] at this
    exact opW_mono (fun R H hh => ih hh) this

theorem barredBy_spec {b : Array Nat} {cons : List (Nat × Nat)} {π : List Nat} (hb : ∀ i j, (b.getD j 0).testBit i = true → posIn π i < posIn π j) (hc : ∀ p, p ∈ cons → posIn π p.1 ≤ posIn π p.2) {i j : Nat} (h : barredBy b cons i j = true) : ¬ posIn π i < posIn π j := by
  have hu : ∀ {x y}, upTo b x y = true → posIn π x ≤ posIn π y := fun {x y} hh => by
    unfold upTo at hh
    simp only [Bool.or_eq_true, beq_iff_eq] at hh
    rcases hh with e | e
    · rw [e]; exact Nat.le_refl _
    · exact Nat.le_of_lt (hb _ _ e)
  unfold barredBy at h
  obtain ⟨p, hp, h1⟩ := List.any_eq_true.1 h
  simp only [Bool.and_eq_true, Bool.or_eq_true] at h1
  have h2 := hc p hp
  have h3 := hu h1.1
  rcases h1.2 with e | e
  · have := hu e; omega
  · obtain ⟨q, hq, h4⟩ := List.any_eq_true.1 e
    simp only [Bool.and_eq_true] at h4
    have h5 := hc q hq
    have h6 := hu h4.1
    have h7 := hu h4.2
    omega

theorem covered_spec {b : Array Nat} {π : List Nat} (hb : ∀ i j, (b.getD j 0).testBit i = true → posIn π i < posIn π j) {rs : List (List Nat)} {c : List (Nat × Nat × Bool)} {cons : List (Nat × Nat)} (hcons : ∀ p, p ∈ cons → posIn π p.1 ≤ posIn π p.2) (h : covered b cons rs c = true) :
    ∃ r, r ∈ rs ∧ ∀ i j two, (i, j, two) ∈ c → (posIn r i < posIn r j ∧ (two = true → posIn π i < posIn π j)) ∨ (¬ posIn r i < posIn r j ∧ ¬ posIn π i < posIn π j) := by
  induction c generalizing rs cons with
  | nil =>
    cases rs with
    | nil => simp [covered] at h
    | cons r rs => exact ⟨r, by simp, fun i j two hm => by cases hm⟩
  | cons p c ih =>
    obtain ⟨i, j, two⟩ := p
    cases two with
    | true =>
      simp only [covered, Bool.and_eq_true, Bool.or_eq_true] at h
      by_cases hc : posIn π i < posIn π j
      · have h1 := h.1.resolve_left (fun hh => barredBy_spec hb hcons hh hc)
        obtain ⟨r, hr, hall⟩ := ih (fun p hp => by
          rcases List.mem_cons.1 hp with rfl | hp
          · exact Nat.le_of_lt hc
          · exact hcons p hp) h1
        obtain ⟨hr1, hr2⟩ := List.mem_filter.1 hr
        simp only [decide_eq_true_eq] at hr2
        refine ⟨r, hr1, fun i' j' two' hm => ?_⟩
        rcases List.mem_cons.1 hm with e | hm
        · cases e
          exact .inl ⟨hr2, fun _ => hc⟩
        · exact hall i' j' two' hm
      · obtain ⟨r, hr, hall⟩ := ih (fun p hp => by
          rcases List.mem_cons.1 hp with rfl | hp
          · exact Nat.not_lt.1 hc
          · exact hcons p hp) h.2
        obtain ⟨hr1, hr2⟩ := List.mem_filter.1 hr
        simp only [Bool.not_eq_true', decide_eq_false_iff_not] at hr2
        refine ⟨r, hr1, fun i' j' two' hm => ?_⟩
        rcases List.mem_cons.1 hm with e | hm
        · cases e; exact .inr ⟨hr2, hc⟩
        · exact hall i' j' two' hm
    | false =>
      simp only [covered] at h
      split at h
      · rename_i hbar
        obtain ⟨r, hr, hall⟩ := ih hcons h
        refine ⟨r, hr, fun i' j' two' hm => ?_⟩
        rcases List.mem_cons.1 hm with e | hm
        · cases e
          rcases Classical.em (posIn r i < posIn r j) with h' | h'
          · exact .inl ⟨h', fun e => by cases e⟩
          · exact .inr ⟨h', barredBy_spec hb hcons hbar⟩
        · exact hall i' j' two' hm
      · obtain ⟨r, hr, hall⟩ := ih hcons h
        obtain ⟨hr1, hr2⟩ := List.mem_filter.1 hr
        simp only [decide_eq_true_eq] at hr2
        refine ⟨r, hr1, fun i' j' two' hm => ?_⟩
        rcases List.mem_cons.1 hm with e | hm
        · cases e
          exact .inl ⟨hr2, fun e => by cases e⟩
        · exact hall i' j' two' hm

theorem mem_twosFirst {c : List (Nat × Nat × Bool)} {p : Nat × Nat × Bool} (h : p ∈ c) : p ∈ twosFirst c := by
  unfold twosFirst
  rw [List.mem_append, List.mem_filter, List.mem_filter]
  cases hb : p.2.2 <;> simp [h, hb]

/-- Whatever is drawn, one of the orders stands for it. -/
theorem safe_spec {P : Program} {ops : Array Oper} {l : List AOper} {rs : List (List Nat)} (h : safe ops l rs = true) (t : Nat) :
    ∃ r, r ∈ rs ∧ ∀ (N : Regs → AHeap → Prop) R H, opsW P (r.map fun i => l.getD i default) N R H → opsW P ((Region.linearise .any ops t).map fun i => l.getD i default) N R H := by
  unfold safe at h
  simp only [Bool.and_eq_true, List.all_eq_true] at h
  obtain ⟨⟨h1, h2⟩, h3⟩ := h
  have hπ := linearise_order (isOrder_spec h1) t
  obtain ⟨r, hr, hall⟩ := covered_spec (π := Region.linearise .any ops t) (fun i j hb => pos_lt hπ.nodup (before_spec hb hπ)) (fun p hp => by cases hp) h3
  have hro := isOrder_spec (h2 r hr)
  refine ⟨r, hr, fun N R H => ops_slid (slid_of (hro.perm.trans hπ.perm.symm) hπ.nodup (fun x y hxy hyx => ?_))⟩
  have p1 := pos_lt hro.nodup hxy
  have p2 := pos_lt hπ.nodup hyx
  have hxn : x < ops.size := by have := hro.perm.mem_iff.1 (hxy.subset (show x ∈ [x, y] by simp)); simpa using this
  have hyn : y < ops.size := by have := hro.perm.mem_iff.1 (hxy.subset (show y ∈ [x, y] by simp)); simpa using this
  have main : ∀ i j, i < j → j < ops.size → (x = i ∧ y = j ∨ x = j ∧ y = i) → slidesAt l x y = true := by
    intro i j hij hj hcase
    have hnb : ((Region.before ops).getD j 0).testBit i ≠ true := by
      intro hb
      have b1 := pos_lt hro.nodup (before_spec hb hro)
      have b2 := pos_lt hπ.nodup (before_spec hb hπ)
      rcases hcase with ⟨rfl, rfl⟩ | ⟨rfl, rfl⟩ <;> omega
    have hmem : ∀ p, (if ((Region.before ops).getD j 0).testBit i = true then none else match slidesAt l i j, slidesAt l j i with
      | true, true => none
      | true, false => some (i, j, false)
      | false, true => some (j, i, false)
      | false, false => some (i, j, true)) = some p → p ∈ twosFirst (clash ops l) := by
      intro p hp
      refine mem_twosFirst ?_
      unfold clash
      simp only [List.mem_flatMap, List.mem_filterMap, List.mem_range]
      exact ⟨j, hj, i, hij, hp⟩
    rw [if_neg hnb] at hmem
    cases hs1 : slidesAt l i j <;> cases hs2 : slidesAt l j i <;> simp only [hs1, hs2] at hmem
    · rcases hall _ _ _ (hmem _ rfl) with ⟨a, b⟩ | ⟨a, b⟩
      · have b := b rfl
        rcases hcase with ⟨rfl, rfl⟩ | ⟨rfl, rfl⟩ <;> omega
      · rcases hcase with ⟨rfl, rfl⟩ | ⟨rfl, rfl⟩ <;> omega
    · rcases hall _ _ _ (hmem _ rfl) with ⟨a, _⟩ | ⟨a, b⟩
      · rcases hcase with ⟨rfl, rfl⟩ | ⟨rfl, rfl⟩
        · omega
        · exact hs2
      · rcases hcase with ⟨rfl, rfl⟩ | ⟨rfl, rfl⟩ <;> omega
    · rcases hall _ _ _ (hmem _ rfl) with ⟨a, _⟩ | ⟨a, b⟩
      · rcases hcase with ⟨rfl, rfl⟩ | ⟨rfl, rfl⟩
        · exact hs1
        · omega
      · rcases hcase with ⟨rfl, rfl⟩ | ⟨rfl, rfl⟩ <;> omega
    · rcases hcase with ⟨rfl, rfl⟩ | ⟨rfl, rfl⟩
      · exact hs1
      · exact hs2
  have hxy' : slidesAt l x y = true := by
    rcases Nat.lt_trichotomy x y with hlt | he | hgt
    · exact main x y hlt hyn (.inl ⟨rfl, rfl⟩)
    · subst he; omega
    · exact main y x hgt hxn (.inr ⟨rfl, rfl⟩)
  unfold slidesAt at hxy'
  simpa using hxy'

end Heron
end

section
set_option linter.unusedSimpArgs false
set_option linter.unusedVariables false
set_option linter.constructorNameAsVariable false
namespace Heron
open Go

/-- What an operation may do: give a value, give none, or enter a function. -/
def Ran (P : Program) (G : Ghost) (H : AHeap) (w : World) (K : AVal → AHeap → Prop) (a : Act) (o : Oper) : Prop :=
  (∃ cv w', (execOp a.eval o).run P w = .ok (.value cv) w' ∧ Done H w G K cv w') ∨
  (∃ w', (execOp a.eval o).run P w = .ok .skip w' ∧ Done H w G K undef w') ∨
  (∃ f args, (execOp a.eval o).run P w = .ok (.enter f args) w ∧ Calls P f args w (Post H w G K)) ∨
  (∃ l f tmps as bd, (execOp a.eval o).run P w = .ok (.round l f tmps as bd) w ∧ RoundIn Fence.wide 0 P l f tmps as bd w (Post H w G K))

section
variable {P : Program} {G : Ghost} {H : AHeap} {w : World} {K : AVal → AHeap → Prop} {R : Regs} {a : Act}

theorem ran_value {o : Oper} {s : Sem Value} (he : execOp a.eval o = (do let x ← s; pure (Next.value x))) (h : ∃ cv w', s.run P w = .ok cv w' ∧ Done H w G K cv w') : Ran P G H w K a o :=
  let ⟨cv, w', h1, h2⟩ := h
  .inl ⟨cv, w', by rw [he]; exact run_value h1, h2⟩

theorem ran_unit {o : Oper} {s : Sem Unit} (he : execOp a.eval o = (do s; pure Next.skip)) (h : ∃ w', s.run P w = .ok () w' ∧ Done H w G K undef w') : Ran P G H w K a o :=
  let ⟨w', h1, h2⟩ := h
  .inr (.inl ⟨w', by rw [he, run_ok h1]; rfl, h2⟩)

theorem run_callFunc {f : FuncId} (h : enterable P f = true) (args : Array Value) : (callFunc f args).run P w = .ok (.enter f args) w := by
  unfold enterable at h
  split at h
  · rename_i fn hf
    simp only [Bool.and_eq_true, bne_iff_ne, ne_eq] at h
    unfold callFunc
    rw [run_bind]
    have : (program).run P w = .ok P w := rfl
    rw [this]
    simp only [hf]
    have h1 : (fn.name == "runtime.NumGoroutine") = false := by simpa using h.2
    have h2 : fn.body.isNone = false := by cases hb : fn.body <;> simp_all
    simp only [h1, h2, Bool.false_eq_true, if_false]
    rfl
  · cases h

theorem vrels_append {cs ds : List AVal} {us vs : List Value} (h : VRels G cs us) (k : VRels G ds vs) : VRels G (cs ++ ds) (us ++ vs) := by
  refine ⟨by simp [h.1, k.1], fun i c v hc hv => ?_⟩
  by_cases hi : i < cs.length
  · rw [List.getElem?_append_left hi] at hc
    rw [List.getElem?_append_left (by rw [h.1]; exact hi)] at hv
    exact h.2 i c v hc hv
  · rw [List.getElem?_append_right (by omega)] at hc
    rw [List.getElem?_append_right (by rw [h.1]; omega), h.1] at hv
    exact k.2 _ c v hc hv

theorem call_func {o : Oper} {c : Call} {f : FuncId} {l : List AVal} (hs : St G H w) (hr : RRel G R a.tmps) (ho : o.op = .call c) (hc : c.callee = .value (.func f)) (hen : enterable P f = true)
    (hl : evs R (c.args.toList.map genX) = some l) (h : callP P f l H K) : Ran P G H w K a o := by
  refine .inr (.inr (.inl ⟨f, c.args.map a.eval, ?_, ?_⟩))
  · unfold execOp
    simp only [ho]
    unfold resolve
    simp only [hc]
    have : (Deferred.ofValue (a.eval (.func f)) (c.args.map a.eval)) = pure { target := .fn (.func f) #[], args := #[] ++ c.args.map a.eval } := rfl
    rw [this, run_bind, run_pure]
    simp only [invoke]
    rw [run_callFunc hen]
    simp
  · have := h G w ((c.args.map a.eval).toList) hs (by rw [Array.toList_map]; exact evs_sound hr hl)
    rw [Array.toArray_toList] at this
    exact this

theorem call_val {o : Oper} {c : Call} {f : FuncId} {t : Tmp} {l cap : List AVal} (hs : St G H w) (hr : RRel G R a.tmps) (ho : o.op = .call c) (hc : c.callee = .value (.tmp t)) (hen : enterable P f = true)
    (ht : (AX.t t).ev R = some (.fn f cap)) (hl : evs R (c.args.toList.map genX) = some l) (h : callP P f (l ++ cap) H K) : Ran P G H w K a o := by
  have hv : VRel G (.fn f cap) (a.eval (.tmp t)) := ev_sound (x := .tmp t) hr ht
  generalize hx : a.eval (.tmp t) = x at hv
  cases hv with
  | fn _ _ vs hn hh =>
    refine .inr (.inr (.inl ⟨f, c.args.map a.eval ++ vs, ?_, ?_⟩))
    · unfold execOp
      simp only [ho]
      unfold resolve
      simp only [hc, hx]
      have : (Deferred.ofValue (.func (.func f) #[] vs) (c.args.map a.eval)) = pure { target := .fn (.func f) vs, args := #[] ++ c.args.map a.eval } := rfl
      rw [this, run_bind, run_pure]
      simp only [invoke]
      rw [run_callFunc hen]
      simp
    · have hcap : VRels G cap vs.toList := ⟨by simpa using hn, fun i c v h1 h2 => hh i c v h1 (by simpa using h2)⟩
      have := h G w ((c.args.map a.eval ++ vs).toList) hs (by rw [Array.toList_append, Array.toList_map]; exact vrels_append (evs_sound hr hl) hcap)
      rw [Array.toArray_toList] at this
      exact this

theorem call_yd {o : Oper} {c : Call} {r : Nat} {t : Tmp} {l : List AVal} (hs : St G H w) (hr : RRel G R a.tmps) (ho : o.op = .call c) (hc : c.callee = .value (.tmp t))
    (ht : (AX.t t).ev R = some (.yd r)) (hl : evs R (c.args.toList.map genX) = some l) (h : yieldP P r l H K) : Ran P G H w K a o := by
  have hv : VRel G (.yd r) (a.eval (.tmp t)) := ev_sound (x := .tmp t) hr ht
  generalize hx : a.eval (.tmp t) = x at hv
  cases hv
  have := h G w ((c.args.map a.eval).toList) hs (by rw [Array.toList_map]; exact evs_sound hr hl)
  rw [Array.toArray_toList] at this
  obtain ⟨fn, tmps, as, bd, h1, h2⟩ := this
  refine .inr (.inr (.inr ⟨r, fn, tmps, as, bd, ?_, h2⟩))
  unfold execOp
  simp only [ho]
  unfold resolve
  simp only [hc, hx]
  have : (Deferred.ofValue (.func (.yield r) #[] #[]) (c.args.map a.eval)) = pure { target := .fn (.yield r) #[], args := #[] ++ c.args.map a.eval } := rfl
  rw [this, run_bind, run_pure]
  simp only [invoke]
  simpa using h1

theorem builtin_args {c : Call} {l : List Operand} (h : c.args.toList = l) : c.args = l.toArray := by rw [← h]

theorem ran_builtin {o : Oper} {c : Call} {b : Builtin} (ho : o.op = .call c) (hb : c.callee = .builtin b) {s : Sem Value} (he : ∀ cs, builtin b c.argTypes o.type cs (c.args.map a.eval) = (do let x ← s; pure (Next.value x)))
    (h : ∃ cv w', s.run P w = .ok cv w' ∧ Done H w G K cv w') : Ran P G H w K a o := by
  obtain ⟨cv, w', h1, h2⟩ := h
  refine .inl ⟨cv, w', ?_, h2⟩
  rw [run_builtin ho hb, he]
  exact run_value h1

theorem builtinI_sound (hs : St G H w) (hr : RRel G R a.tmps) {o : Oper} {c : Call} {b : Builtin} {quiet keepOld : Bool} {i : AI} (ho : o.op = .call c) (hb : c.callee = .builtin b)
    (hg : genBuiltinI P quiet keepOld b c.args.toList c.argTypes = some i) (hst : step P K R H i) : Ran P G H w K a o := by
  unfold genBuiltinI at hg
  split at hg
  · rename_i x y hx
    refine ran_builtin ho hb (s := Builtin.append_ c.argTypes o.type #[a.eval x, a.eval y]) (fun cs => by rw [builtin_args hx]; simp only [builtin, List.map_toArray, List.map_cons, List.map_nil]) ?_
    unfold genAppend at hg
    obtain ⟨t0, ht0, hg1⟩ := bind_some' hg
    obtain ⟨d0, hd0, hg2⟩ := bind_some' hg1
    split at hg2
    · rename_i e
      obtain ⟨t1, ht1, hg3⟩ := bind_some' hg2
      obtain ⟨d1, hd1, hg4⟩ := bind_some' hg3
      obtain ⟨zs, hzs, hg5⟩ := bind_some' hg4
      obtain ⟨sz, hsz, hg6⟩ := bind_some' hg5
      obtain ⟨zv, hz, hg7⟩ := bind_some' hg6
      obtain ⟨bytes, hby, hg8⟩ := bind_some' hg7
      clear hg hg1 hg2 hg3 hg4 hg5 hg6 hg7
      split at hg8
      · cases hg8
      · rename_i hb0
        split at hg8
        · rename_i hzs1
          have hzs' : zs = true := by simpa using hzs1
          subst hzs'
          have hat : AppTy P c.argTypes e sz bytes true := ⟨⟨t0, t1, d1, ht0, ht1, hd0, hd1, hzs⟩, hsz, by unfold tyBytes at hby; obtain ⟨inf, h1, h2⟩ := omap hby; exact ⟨inf, h1, h2⟩, by simpa using hb0⟩
          cases hg8
          simp only [step] at hst
          split at hst
          · rename_i s n hs1 hn1
            obtain ⟨nv, hnv, hn⟩ := obind hn1
            have h1 := ev_sound hr hnv
            unfold aInt at hn
            split at hn <;> try (cases hn)
            obtain ⟨new, hR⟩ := appR_zeros (P := P) (G := G) (w := w) (ty := o.type) hat hz (k := by assumption) hst.1 hst.2.1
            rw [VRel.raw_inv h1]
            exact appk_sound hs hR hz (ev_sound hr hs1) hst.2.2
          · exact hst.elim
        · rename_i hzs0
          have hzs' : zs = false := by simpa using hzs0
          subst hzs'
          have hat : AppTy P c.argTypes e sz bytes false := ⟨⟨t0, t1, d1, ht0, ht1, hd0, hd1, hzs⟩, hsz, by unfold tyBytes at hby; obtain ⟨inf, h1, h2⟩ := omap hby; exact ⟨inf, h1, h2⟩, by simpa using hb0⟩
          have h0 := (tyZ_spec hz).2.2
          split at hg8
          · cases hg8
            simp only [step] at hst
            split at hst
            · rename_i s ys hs1 hy1
              obtain ⟨yv, hyv, hys⟩ := obind hy1
              obtain ⟨new, hR⟩ := appR_of (P := P) (ty := o.type) hs hat h0 hys (ev_sound hr hyv)
              exact appn_sound hs hR hz (ev_sound hr hs1) hst
            · exact hst.elim
          · split at hg8
            · cases hg8
              simp only [step] at hst
              split at hst
              · rename_i s ys hs1 hy1
                obtain ⟨yv, hyv, hys⟩ := obind hy1
                obtain ⟨new, hR⟩ := appR_of (P := P) (ty := o.type) hs hat h0 hys (ev_sound hr hyv)
                exact appk_sound hs hR hz (ev_sound hr hs1) hst
              · exact hst.elim
            · cases hg8
              simp only [step] at hst
              split at hst
              · rename_i s ys hs1 hy1
                obtain ⟨yv, hyv, hys⟩ := obind hy1
                obtain ⟨new, hR⟩ := appR_of (P := P) (ty := o.type) hs hat h0 hys (ev_sound hr hyv)
                exact app_sound hs hR hz (ev_sound hr hs1) hst
              · exact hst.elim
    · cases hg2
  · rename_i x y hx
    refine ran_builtin ho hb (s := Builtin.copy_ c.argTypes o.type #[a.eval x, a.eval y]) (fun cs => by rw [builtin_args hx]; simp only [builtin, List.map_toArray, List.map_cons, List.map_nil]) ?_
    unfold genCopy at hg
    obtain ⟨t0, ht0, hg1⟩ := bind_some' hg
    obtain ⟨d0, hd0, hg2⟩ := bind_some' hg1
    split at hg2
    · rename_i e
      obtain ⟨sz, hsz, hg3⟩ := bind_some' hg2
      split at hg3
      · cases hg3
      · rename_i h0
        cases hg3
        simp only [step] at hst
        split at hst
        · rename_i s ys hs1 hy1
          obtain ⟨yv, hyv, hys⟩ := obind hy1
          have : sz ≠ 0 := by simpa using h0
          exact cpy_sound hs ht0 hd0 hsz (by omega) (ev_sound hr hs1) hys (ev_sound hr hyv) hst.1 hst.2
        · exact hst.elim
    · cases hg2
  · rename_i x hx
    refine ran_builtin ho hb (s := Builtin.clear_ c.argTypes o.type #[a.eval x]) (fun cs => by rw [builtin_args hx]; simp only [builtin, List.map_toArray, List.map_cons, List.map_nil]) ?_
    unfold genClear at hg
    obtain ⟨t0, ht0, hg1⟩ := bind_some' hg
    obtain ⟨d0, hd0, hg2⟩ := bind_some' hg1
    split at hg2
    · cases hg2
      simp only [step] at hst
      cases hx1 : (genX x).ev R with
      | none => simp [hx1] at hst
      | some s =>
        rw [hx1] at hst
        refine clr_sound hs ht0 hd0 (ev_sound hr hx1) ?_
        cases s with
        | raw v => cases v <;> first | exact hst | (rename_i o; cases o <;> exact hst)
        | _ => exact hst
    · rename_i e
      obtain ⟨sz, hsz, hg3⟩ := bind_some' hg2
      obtain ⟨zv, hz, hg4⟩ := bind_some' hg3
      cases hg4
      cases hx1 : (genX x).ev R with
      | none => simp [step, hx1] at hst
      | some s => exact clrs_sound hs ht0 hd0 hz hx1 (ev_sound hr hx1) hst
    · cases hg2
  · rename_i m k hx
    refine ran_builtin ho hb (s := Builtin.delete_ c.argTypes o.type #[a.eval m, a.eval k]) (fun cs => by rw [builtin_args hx]; simp only [builtin, List.map_toArray, List.map_cons, List.map_nil]) ?_
    obtain ⟨t0, ht0, hg1⟩ := bind_some' hg
    obtain ⟨⟨kk, e⟩, hk, hg2⟩ := bind_some' hg1
    cases hg2
    simp only [step] at hst
    split at hst
    · rename_i b key hm hkey
      obtain ⟨kv, hkv, hkey⟩ := obind hkey
      split at hst
      · rename_i kk' es clock hbb
        obtain ⟨rfl, hst⟩ := hst
        have hv := ev_sound hr hm
        generalize a.eval m = mv at hv
        cases hv
        exact del_sound hs ht0 hk hkey (ev_sound hr hkv) hbb hst
      · exact hst.elim
    · exact hst.elim
  · cases hg

end
end Heron
end
