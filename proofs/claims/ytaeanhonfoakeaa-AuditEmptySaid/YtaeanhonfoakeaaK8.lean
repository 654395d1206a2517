/- Every operation does what its step says: the rest; and a row of them. Code, and functions. Functions: a call runs the digest of its body. -/
import Derived.Test.YtaeanhonfoakeaaK7
import Derived.RangeFuncRecord
section
set_option linter.unusedSimpArgs false
set_option linter.unusedVariables false
set_option linter.constructorNameAsVariable false
namespace Heron
open Go

section
variable {P : Program} {G : Ghost} {H : AHeap} {w : World} {K : AVal → AHeap → Prop} {R : Regs} {a : Act}

theorem done_of_q (hs : St G H w) {v : AVal} {cv : Value} (hv : VRel G v cv) (hk : K v H) : Done H w G K cv w := ⟨G, v, H, G.le_refl, hs, hv, Fr.refl H w, hk⟩

set_option maxHeartbeats 2000000 in
theorem genI_sound (hs : St G H w) (hr : RRel G R a.tmps) {o : Oper} {quiet keepOld : Bool} {i : AI} (hg : genI P quiet keepOld o.op = some i) (hst : step P K R H i) : Ran P G H w K a o := by
  cases hop : o.op <;> rw [hop] at hg <;> simp only [genI] at hg
  case alloc t =>
    obtain ⟨sz, hsz, hg1⟩ := bind_some' hg
    obtain ⟨zv, hz, hg2⟩ := bind_some' hg1
    cases hg2
    exact ran_value (s := Instr.alloc t true (.tuple #[])) (by unfold execOp; rw [hop]) (alloc_sound hs hz hst)
  case box t x =>
    obtain ⟨sz, hsz, hg1⟩ := bind_some' hg
    split at hg1
    · cases hg1
    · cases hg1
      simp only [step] at hst
      split at hst
      · rename_i v hx
        exact ran_value (s := Instr.box t (a.eval x)) (by unfold execOp; rw [hop]) (box_sound hs (ev_sound hr hx) hst.1 hst.2)
      · exact hst.elim
  case buildSlice t n parts =>
    refine ran_value (he := ?_) (h := bsl_sound hs hr hg hst)
    unfold execOp
    rw [hop]
  case makeSlice t l c =>
    unfold genMks at hg
    obtain ⟨d, hu, hg1⟩ := bind_some' hg
    split at hg1
    · rename_i e
      obtain ⟨sz, hsz, hg2⟩ := bind_some' hg1
      obtain ⟨by0, hby0, hg3⟩ := bind_some' hg2
      split at hg3
      · cases hg3
      · rename_i hb0
        obtain ⟨bytes, hby, hg4⟩ := bind_some' hg3
        obtain ⟨zv, hz, hg5⟩ := bind_some' hg4
        cases hg5
        rw [hby0] at hby
        cases hby
        simp only [step] at hst
        split at hst
        · rename_i l' c' hl hc
          obtain ⟨lv, hlv, hl⟩ := obind hl
          obtain ⟨cv, hcv, hc⟩ := obind hc
          have h1 := ev_sound hr hlv
          have h2 := ev_sound hr hcv
          unfold aInt at hl hc
          split at hl <;> try (cases hl)
          split at hc <;> try (cases hc)
          refine ran_value (s := Instr.makeSlice t (a.eval l) (a.eval c)) (by unfold execOp; rw [hop]) ?_
          rw [VRel.raw_inv h1, VRel.raw_inv h2]
          exact mks_sound hs hu hsz hby0 (by simpa using hb0) hz hst.1 hst.2.1 hst.2.2.1 hst.2.2.2
        · exact hst.elim
    · cases hg1
  case makeMap t r =>
    split at hg
    · rename_i hn
      obtain ⟨⟨kk, e⟩, hk, hg1⟩ := bind_some' hg
      cases hg1
      have : r = none := by cases r <;> simp_all
      subst this
      exact ran_value (s := Instr.makeMap t none) (by unfold execOp; rw [hop]; rfl) (mkm_sound hs hst)
    · cases hg
  case convert src dst x =>
    unfold genS2b at hg
    obtain ⟨ds, h1, hg1⟩ := bind_some' hg
    obtain ⟨dd, h2, hg2⟩ := bind_some' hg1
    split at hg2
    · rename_i e
      obtain ⟨de, h3, hg3⟩ := bind_some' hg2
      split at hg3
      · obtain ⟨sz, hsz, hg4⟩ := bind_some' hg3
        split at hg4
        · cases hg4
          simp only [step] at hst
          split at hst
          · rename_i s hx
            refine ran_value (s := convert src dst (a.eval x)) (by unfold execOp; rw [hop]) ?_
            rw [VRel.raw_inv (ev_sound hr hx)]
            exact s2b_sound hs h1 h2 h3 hst.1 hst.2
          · exact hst.elim
        · cases hg4
      · cases hg3
    · cases hg2
  case store t p v =>
    obtain ⟨sz, hsz, hg1⟩ := bind_some' hg
    split at hg1
    · cases hg1
    · cases hg1
      simp only [step] at hst
      split at hst
      · rename_i pv vv hp hv
        exact ran_unit (s := Instr.storeAt t (a.eval p) (a.eval v)) (by unfold execOp; rw [hop]) (store_sound hs hsz (ev_sound hr hp) (ev_sound hr hv) hst)
      · exact hst.elim
  case mapUpdate t m k v =>
    obtain ⟨⟨kk, e⟩, hk, hg1⟩ := bind_some' hg
    cases hg1
    simp only [step] at hst
    split at hst
    · rename_i mv kv vv hm hkk hv
      exact ran_unit (s := Instr.mapUpdate t (a.eval m) (a.eval k) (a.eval v)) (by unfold execOp; rw [hop]) (mup_sound hs hk (ev_sound hr hm) (ev_sound hr hkk) (ev_sound hr hv) hst)
    · exact hst.elim
  case insert t m k v =>
    obtain ⟨⟨kk, e⟩, hk, hg1⟩ := bind_some' hg
    cases hg1
    simp only [step] at hst
    split at hst
    · rename_i mv kv vv hm hkk hv
      exact ran_unit (s := Instr.mapUpdate t (a.eval m) (a.eval k) (a.eval v)) (by unfold execOp; rw [hop]) (mup_sound hs hk (ev_sound hr hm) (ev_sound hr hkk) (ev_sound hr hv) hst)
    · exact hst.elim
  case mapEntry t m k =>
    obtain ⟨⟨kk, e⟩, hk, hg1⟩ := bind_some' hg
    obtain ⟨zv, hz, hg2⟩ := bind_some' hg1
    cases hg2
    simp only [step] at hst
    split at hst
    · rename_i b key hm hkey
      obtain ⟨kv, hkv, hkey⟩ := obind hkey
      split at hst
      · rename_i kk' es clock hb
        obtain ⟨rfl, hst⟩ := hst
        refine ran_value (s := Instr.mapEntry t (a.eval m) (a.eval k)) (by unfold execOp; rw [hop]) ?_
        have hv := ev_sound hr hm
        generalize a.eval m = mv at hv
        cases hv
        exact ment_sound hs hk hz hkey (ev_sound hr hkv) hb hst
      · exact hst.elim
    · exact hst.elim
  case entryStore t m s v =>
    cases hg
    simp only [step] at hst
    split at hst
    · rename_i b s' v' hm hse hv
      obtain ⟨sv, hsv, hse⟩ := obind hse
      have h1 := ev_sound hr hsv
      unfold aInt at hse
      split at hse <;> try (cases hse)
      split at hst
      · rename_i kk es clock hb
        refine ran_unit (s := Instr.entryStore t (a.eval m) (a.eval s) (a.eval v)) (by unfold execOp; rw [hop]) ?_
        have hmv := ev_sound hr hm
        generalize a.eval m = mv at hmv
        cases hmv
        rw [VRel.raw_inv h1]
        exact est_sound hs (ev_sound hr hv) hb hst.1 hst.2
      · exact hst.elim
    · exact hst.elim
  case range t m =>
    obtain ⟨d, hu, hg1⟩ := bind_some' hg
    split at hg1
    · cases hg1
      simp only [step] at hst
      split at hst
      · rename_i b hm
        split at hst
        · rename_i kk es clock hb
          refine ran_value (s := Instr.range t (a.eval m)) (by unfold execOp; rw [hop]) ?_
          have hmv := ev_sound hr hm
          generalize a.eval m = mv at hmv
          cases hmv
          exact rng_sound hs hu hb hst
        · exact hst.elim
      · exact hst.elim
    · cases hg1
  case next it str =>
    split at hg
    · cases hg
    · rename_i hstr
      have : str = false := by simpa using hstr
      subst this
      cases hg
      simp only [step] at hst
      split at hst
      · rename_i v hi
        exact ran_value (s := Instr.next (a.eval it) false o.type) (by unfold execOp; rw [hop]) (nxt_sound hs (ev_sound hr hi) hst)
      · exact hst.elim
  case binOp op t x y yt =>
    unfold genEqn at hg
    have main : ∀ neg : Bool, (∃ e, P.underlying t = some (.slice e)) → op = (if neg then .neq else .eql) → isNilConst y = true → i = .eqn neg (genX x) → Ran P G H w K a o := by
      rintro neg ⟨e, hu⟩ hop' hy rfl
      simp only [step] at hst
      split at hst
      · rename_i v hx
        have hyc : y = .const (.slice none 0 0) := by
          unfold isNilConst at hy
          split at hy
          · rfl
          · cases hy
        subst hyc
        obtain ⟨cv, h1, h2⟩ := eqn_sound (x := x) (y := .const (.slice none 0 0)) hs hu hop' (ev_sound hr hx) hst
        exact ran_value (s := do eqGuard op t x (.const (.slice none 0 0)) (a.eval x) (.slice none 0 0); binOp op t (a.eval x) (.slice none 0 0)) (by unfold execOp; rw [hop]; rfl) ⟨cv, w, h1, h2⟩
      · exact hst.elim
    split at hg
    · rename_i hk
      split at hg
      · rename_i hy
        cases hg
        exact main false (eqKind_slice hk) (by simp) hy rfl
      · cases hg
    · rename_i hk
      split at hg
      · rename_i hy
        cases hg
        exact main true (eqKind_slice hk) (by simp) hy rfl
      · cases hg
    · cases hg
  case call c =>
    unfold genCall at hg
    split at hg
    · rename_i f hc
      split at hg
      · cases hg
      · rename_i hen
        have hen' : enterable P f = true := by simpa using hen
        split at hg
        · cases hg
          simp only [step, qcallK] at hst
          split at hst
          · rename_i l hl
            obtain ⟨v, h1, h2⟩ := hst
            exact call_func hs hr hop hc hen' hl (h1 H H.le_refl K h2)
          · exact hst.elim
        · cases hg
          simp only [step, callK] at hst
          split at hst
          · rename_i l hl
            exact call_func hs hr hop hc hen' hl hst
          · exact hst.elim
    · rename_i t hc
      split at hg
      · cases hg
        simp only [step, qcalvK] at hst
        split at hst
        · rename_i f cap l hf hl
          obtain ⟨h0, v, h1, h2⟩ := hst
          exact call_val hs hr hop hc h0 hf hl (h1 H H.le_refl K h2)
        · exact hst.elim
      · cases hg
        simp only [step, calvK] at hst
        split at hst
        · rename_i f cap l hf hl
          exact call_val hs hr hop hc hst.1 hf hl hst.2
        · rename_i rr l hf hl
          exact call_yd hs hr hop hc hf hl hst
        · exact hst.elim
    · rename_i b hb
      exact builtinI_sound hs hr hop hb hg hst
    · cases hg
  all_goals cases hg

/-- One operation of the loaded program, and its digest. -/
structure OpRel (P : Program) (n : Nat) (ops : Array Oper) (o : Oper) (p : AOper) : Prop where
  d : p.d = o.dst
  lt : ∀ d, o.dst = some d → d < n
  g : match o.guard with
    | none => p.g = none
    | some (j, want) => ∃ oj t, ops[j]? = some oj ∧ oj.dst = some t ∧ p.g = some (t, want)
  i : (∃ e, genQ P o.op = some e ∧ p.i = .q e) ∨ ∃ q k, genI P q k o.op = some p.i

theorem genOper_spec {n : Nat} {quiet keepOld : Bool} {ops : Array Oper} {o : Oper} {p : AOper} (h : genOper P n quiet keepOld ops o = some p) : OpRel P n ops o p := by
  unfold genOper at h
  obtain ⟨g, hg, h1⟩ := bind_some' h
  obtain ⟨i, hi, h2⟩ := bind_some' h1
  have hi' : (∃ e, genQ P o.op = some e ∧ i = .q e) ∨ ∃ q k, genI P q k o.op = some i := by
    unfold genAI at hi
    split at hi
    · rename_i e he; cases hi; exact .inl ⟨e, he, rfl⟩
    · exact .inr ⟨_, _, hi⟩
  have hg' : match o.guard with
    | none => g = none
    | some (j, want) => ∃ oj t, ops[j]? = some oj ∧ oj.dst = some t ∧ g = some (t, want) := by
    cases hgu : o.guard with
    | none => rw [hgu] at hg; cases hg; rfl
    | some q =>
      obtain ⟨j, want⟩ := q
      rw [hgu] at hg
      unfold genGuard at hg
      simp only at hg ⊢
      obtain ⟨oj, hoj, hg1⟩ := bind_some' hg
      obtain ⟨t, ht, hg2⟩ := bind_some' hg1
      cases hg2
      exact ⟨oj, t, hoj, ht, rfl⟩
  split at h2
  · rename_i d hd
    split at h2
    · rename_i hlt
      cases h2
      exact ⟨hd.symm, fun d' e => by rw [hd] at e; cases e; exact hlt, hg', hi'⟩
    · cases h2
  · rename_i hd
    cases h2
    exact ⟨hd.symm, fun d' e => (by rw [hd] at e; cases e), hg', hi'⟩

/-- A fence that bars nothing. -/
abbrev FW (r : Option Nat) : Fence := { Fence.wide with round := r }

/-- The calls that are put off are marks of loops, in blocks of the call's own. -/
def MarksOk (B : Nat) (ds : List Deferred) (w : World) : Prop :=
  ∃ Ds : List Nat, ds = Ds.map (fun D => { target := .collected D, args := #[] }) ∧ Ds.Nodup ∧ ∀ D, D ∈ Ds → B ≤ D ∧ w.heap[D]? = some (.deferred (some []))

theorem MarksOk.nil (B : Nat) (w : World) : MarksOk B [] w := ⟨[], rfl, List.nodup_nil, fun D h => by cases h⟩

theorem MarksOk.fr {B : Nat} {ds : List Deferred} {G : Ghost} {H H' : AHeap} {w w' : World} (h : MarksOk B ds w) (hs : St G H w) (hf : Fr H w H' w') : MarksOk B ds w' := by
  obtain ⟨Ds, h1, h2, h3⟩ := h
  refine ⟨Ds, h1, h2, fun D hD => ⟨(h3 D hD).1, ?_⟩⟩
  have hb := (h3 D hD).2
  have hn : H D = none := by
    cases e : H D with
    | none => rfl
    | some o =>
      obtain ⟨ob, e1, e2⟩ := hs.own D o e
      rw [hb] at e1
      cases e1
      cases e2
  rw [hf.keep D (lt_of_heap hb) hn]
  exact hb

/-- What holds behind a row of operations. -/
def Good (B : Nat) (H : AHeap) (w : World) (G : Ghost) (n : Nat) (N : Regs → AHeap → Prop) (a : Act) (w' : World) : Prop :=
  ∃ G' R' H', G.le G' ∧ St G' H' w' ∧ RRel G' R' a.tmps ∧ a.tmps.size = n ∧ MarksOk B a.defers w' ∧ Fr H w H' w' ∧ N R' H'

theorem Good.trans {B : Nat} {H H1 : AHeap} {w w1 : World} {G G1 : Ghost} {n : Nat} {N : Regs → AHeap → Prop} {a : Act} {w' : World} (hG : G.le G1) (hf : Fr H w H1 w1) (h : Good B H1 w1 G1 n N a w') : Good B H w G n N a w' :=
  let ⟨G', R', H', a1, a2, a3, a4, a5, a6, a7⟩ := h
  ⟨G', R', H', Ghost.le_trans hG a1, a2, a3, a4, a5, hf.trans a6, a7⟩

theorem put_size (a : Act) (d : Option Tmp) (v : Value) : (a.put d v).tmps.size = a.tmps.size := by cases d <;> simp [Act.put]
theorem put_defers (a : Act) (d : Option Tmp) (v : Value) : (a.put d v).defers = a.defers := by cases d <;> rfl

theorem RRel.putO {n : Nat} (hr : RRel G R a.tmps) (hn : a.tmps.size = n) {d : Option Tmp} (hd : ∀ t, d = some t → t < n) {v : AVal} {cv : Value} (hv : VRel G v cv) : RRel G (R.putO d v) (a.put d cv).tmps := by
  cases d with
  | none => exact hr
  | some d => exact hr.put (by rw [hn]; exact hd d rfl) hv

theorem ran_wp {r : Option Nat} {o : Oper} {next : Act → World → Prop} {Q : Exit → Act → World → Prop} (hnd : ∀ c, o.op ≠ .defer c) (h : Ran P G H w K a o) (hn : ∀ cv w', Done H w G K cv w' → next (a.put o.dst cv) w') : o.wpIn (FW r) 0 P a w next Q := by
  refine ⟨fun f _ => trivial, ?_⟩
  rw [Oper.semAt_eq _ _ _ hnd]
  rcases h with ⟨cv, w', h1, h2⟩ | ⟨w', h1, h2⟩ | ⟨f, args, h1, h2⟩ | ⟨l, f, tmps, as, bd, h1, h2⟩
  · rw [h1]; exact hn cv w' h2
  · rw [h1]; exact hn undef w' h2
  · rw [h1]
    refine ⟨(fun hd => by cases hd), ?_⟩
    have h3 : CallsIn (FW r) (0 - 1) P f args w (Post H w G K) := (callsIn_wide (n := 0 - 1)).2 h2
    refine CallsIn.mono h3 fun e w' he => ?_
    obtain ⟨cv, G', v, H', rfl, he⟩ := he
    exact hn cv w' ⟨G', v, H', he⟩
  · rw [h1]
    refine ⟨(fun hd => by cases hd), ?_⟩
    have h3 : RoundIn (FW r) (0 - 1) P l f tmps as bd w (Post H w G K) := h2
    refine RoundIn.mono h3 fun e w' he => ?_
    obtain ⟨cv, G', v, H', rfl, he⟩ := he
    exact hn cv w' ⟨G', v, H', he⟩

theorem genI_nodefer {q k : Bool} {op : Op} {i : AI} (h : genI P q k op = some i) : ∀ c, op ≠ .defer c := by
  intro c e; subst e; cases h
theorem genQ_nodefer {op : Op} {i : QE} (h : genQ P op = some i) : ∀ c, op ≠ .defer c := by
  intro c e; subst e; cases h
theorem OpRel.nodefer {n : Nat} {ops : Array Oper} {o : Oper} {p : AOper} (h : OpRel P n ops o p) : ∀ c, o.op ≠ .defer c := by
  rcases h.i with ⟨e, h1, _⟩ | ⟨q, k, h1⟩
  · exact genQ_nodefer h1
  · exact genI_nodefer h1

theorem op_ran {n : Nat} {ops : Array Oper} {o : Oper} {p : AOper} (hp : OpRel P n ops o p) (hs : St G H w) (hr : RRel G R a.tmps) (hst : step P K R H p.i) : Ran P G H w K a o := by
  rcases hp.i with ⟨e, he, hi⟩ | ⟨q, k, hi⟩
  · rw [hi] at hst
    simp only [step] at hst
    cases hv : qeval R H e with
    | none => rw [hv] at hst; exact hst.elim
    | some v =>
      rw [hv] at hst
      obtain ⟨cv, h1, h2⟩ := q_sound hs hr he hv
      exact .inl ⟨cv, w, h1, done_of_q hs h2 hst⟩
  · exact genI_sound hs hr hi hst

theorem vrel_junk_undef (G : Ghost) : VRel G .junk undef := .junk _ rfl

/-- A row of operations, in the order of a list of their places. -/
theorem ops_sound {n : Nat} {ops : Array Oper} {l : List AOper} (hl : l.length = ops.size) (hrel : ∀ (i : Nat) o p, ops[i]? = some o → l[i]? = some p → OpRel P n ops o p) {Q : Exit → Act → World → Prop} {r : Option Nat} {B : Nat} :
    ∀ (π : List Nat), (∀ i, i ∈ π → i < ops.size) → ∀ {N : Regs → AHeap → Prop} {R : Regs} {H : AHeap} {G : Ghost} {w : World} {a : Act}, St G H w → RRel G R a.tmps → a.tmps.size = n → MarksOk B a.defers w →
      opsW P (π.map fun i => l.getD i default) N R H → (∀ a' w', Good B H w G n N a' w' → Q .normal a' w') → wpOpsIn (FW r) 0 P ops Q π a w
  | [], _, N, R, H, G, w, a, hs, hr, hn, hd, h, hq => hq a w ⟨G, R, H, G.le_refl, hs, hr, hn, hd, Fr.refl H w, h⟩
  | i :: π, hi, N, R, H, G, w, a, hs, hr, hn, hd, h, hq => by
    have hilt := hi i (by simp)
    have ho : ops[i]? = some ops[i] := by simp [hilt]
    have hp : l[i]? = some (l[i]'(by omega)) := by simp [show i < l.length by omega]
    have hrl := hrel i _ _ ho hp
    have hget : l.getD i default = l[i]'(by omega) := by simp [List.getD, hp]
    simp only [List.map_cons, opsW] at h
    rw [hget] at h
    generalize hpp : l[i]'(by omega) = p at *
    generalize hoo : ops[i] = o at *
    simp only [wpOpsIn, ho]
    have go : ∀ cv w', Done H w G (setK p.d (opsW P (π.map fun i => l.getD i default) N) R) cv w' → wpOpsIn (FW r) 0 P ops Q π (a.put o.dst cv) w' := by
      rintro cv w' ⟨G', v, H', b1, b2, b3, b4, b5⟩
      refine ops_sound hl hrel π (fun j hj => hi j (by simp [hj])) b2 (RRel.putO (hr.mono b1) hn (fun t ht => hrl.lt t ht) b3) (by rw [put_size]; exact hn) (by rw [put_defers]; exact hd.fr hs b4) ?_ (fun a' w'' hg => hq a' w'' (hg.trans b1 b4))
      rw [← hrl.d]
      exact b5
    unfold opW at h
    have hgd := hrl.g
    cases hgu : o.guard with
    | none =>
      rw [hgu] at hgd
      simp only at hgd
      rw [hgd] at h
      have hw : Region.wanted o (yielded ops a.tmps) = true := by unfold Region.wanted; rw [hgu]
      rw [if_pos hw]
      exact ran_wp hrl.nodefer (op_ran hrl hs hr h) go
    | some q =>
      obtain ⟨j, want⟩ := q
      rw [hgu] at hgd
      obtain ⟨oj, t, hoj, hdj, hgp⟩ := hgd
      rw [hgp] at h
      simp only at h
      split at h
      · rename_i c hc
        obtain ⟨u, hu, hvr⟩ := hr t _ hc
        have hy : yielded ops a.tmps j = some c := by
          unfold yielded
          rw [hoj]
          simp only [Option.bind_some, hdj, hu]
          rw [VRel.raw_inv hvr]
        have hw : Region.wanted o (yielded ops a.tmps) = (c == want) := by
          unfold Region.wanted
          rw [hgu]
          simp only [hy]
          cases c <;> cases want <;> rfl
        rw [hw]
        by_cases hcw : c = want
        · rw [if_pos (by simpa using hcw)]
          rw [if_pos hcw] at h
          exact ran_wp hrl.nodefer (op_ran hrl hs hr h) go
        · rw [if_neg (by simpa using hcw)]
          rw [if_neg hcw] at h
          exact ⟨fun f _ => trivial, go undef w ⟨G, .junk, H, G.le_refl, hs, vrel_junk_undef G, Fr.refl H w, h⟩⟩
      · exact h.elim

end
end Heron
end

section
set_option linter.unusedSimpArgs false
set_option linter.unusedVariables false
set_option linter.constructorNameAsVariable false
namespace Heron
open Go

/-- What holds where a piece of code is left. -/
def QC (B : Nat) (H : AHeap) (w : World) (G : Ghost) (n : Nat) (Q : AQ) : Exit → Act → World → Prop
  | .normal, a, w' => Good B H w G n (Q .normal) a w'
  | .exit id, a, w' => Good B H w G n (Q (.exit id)) a w'
  | .ret, a, w' => Good B H w G n (Q .ret) a w'
  | _, _, _ => False

theorem QC.trans {B : Nat} {H H1 : AHeap} {w w1 : World} {G G1 : Ghost} {n : Nat} {Q : AQ} {e : Exit} {a : Act} {w' : World} (hG : G.le G1) (hf : Fr H w H1 w1) (h : QC B H1 w1 G1 n Q e a w') : QC B H w G n Q e a w' := by
  cases e <;> first | exact Good.trans hG hf h | exact h.elim

theorem genRegion_spec {P : Program} {n : Nat} {ann : Ann} {id : Nat} {ops : Array Oper} {draw : Bool} {ac : ACode} (h : genRegion P n ann id ops draw = some ac) :
    ∃ l : List AOper, l.length = ops.size ∧ (∀ (i : Nat) o p, ops[i]? = some o → l[i]? = some p → OpRel P n ops o p) ∧
      ((draw = false ∧ ac = withGh (ann.gh.contains id) (.rg l (ann.keepAt id))) ∨ ∃ rs, draw = true ∧ safe ops l rs = true ∧ ac = withGh (ann.gh.contains id) (.rgs (rs.map fun r => r.map fun i => l.getD i default) (ann.keepAt id))) := by
  unfold genRegion at h
  obtain ⟨l, hl, h1⟩ := bind_some' h
  have hm : ∀ {os : List Oper} {ps : List AOper} {q k : Bool}, os.mapM (genOper P n q k ops) = some ps → ps.length = os.length ∧ ∀ (i : Nat) o p, os[i]? = some o → ps[i]? = some p → OpRel P n ops o p := by
    intro os
    induction os with
    | nil => intro ps q k h; simp at h; subst h; exact ⟨rfl, fun i o p ho => by simp at ho⟩
    | cons o os ih =>
      intro ps q k h
      rw [List.mapM_cons] at h
      obtain ⟨p, hp, h2⟩ := bind_some' h
      obtain ⟨ps', hps, h3⟩ := bind_some' h2
      cases h3
      obtain ⟨a1, a2⟩ := ih hps
      refine ⟨by simp [a1], fun i o' p' ho hp' => ?_⟩
      cases i with
      | zero => simp at ho hp'; subst ho; subst hp'; exact genOper_spec hp
      | succ i => exact a2 i o' p' (by simpa using ho) (by simpa using hp')
  obtain ⟨a1, a2⟩ := hm hl
  refine ⟨l, by simpa using a1, fun i o p ho hp => a2 i o p (by simpa using ho) hp, ?_⟩
  split at h1
  · rename_i hd
    cases h1
    exact .inl ⟨by simpa using hd, rfl⟩
  · rename_i hd
    dsimp only at h1
    split at h1
    · rename_i hs
      cases h1
      exact .inr ⟨_, by simpa using hd, hs, rfl⟩
    · cases h1

/-- A loop at its head, in the machine. -/
def LoopWp (r : Option Nat) (P : Program) (c : Code) (Q : Exit → Act → World → Prop) (a : Act) (w : World) : Prop :=
  ∀ (b : Frame) (k : List Item) (cs : List Frame), b.roundOf = r → ∃ e a' w', Q e a' w' ∧ ArrivesIn (Machine.fenced P (FW r)) P (lone (b.atR a (.code c :: .inLoop c :: k)) cs w) b k cs e a' w'

theorem fw_room (r : Option Nat) (n : Nat) : (FW r).room n := fun _ h => by simp [Fence.wide] at h
theorem fw_fenced (r : Option Nat) (P : Program) (m : Machine) : Machine.fenced P (FW r) m := fenced_wide P m

theorem loop_round {r : Option Nat} {P : Program} {c : Code} {Q : Exit → Act → World → Prop} {a : Act} {w : World} (h : c.wpIn (FW r) 0 P (Exit.then (LoopWp r P c Q) Q) a w) : LoopWp r P c Q a w := by
  intro b k cs hro
  obtain ⟨e, a₁, w₁, hq, harr⟩ := h b (.inLoop c :: k) cs hro trivial (fw_room r _)
  cases e with
  | normal =>
    obtain ⟨e₂, a₂, w₂, hq₂, harr₂⟩ := hq b k cs hro
    exact ⟨e₂, a₂, w₂, hq₂, .of_steps (StepsIn.trans harr (.one (fw_fenced r P _) stepR_inLoop)) harr₂⟩
  | exit id => exact ⟨_, a₁, w₁, hq, .pass (x := .inLoop c) rfl (fun _ _ => .inl (by simp)) harr⟩
  | goto l => exact ⟨_, a₁, w₁, hq, .pass (x := .inLoop c) rfl (fun _ _ => .inl (by simp)) harr⟩
  | ret => exact ⟨_, a₁, w₁, hq, .pass (x := .inLoop c) rfl (fun _ _ => .inl (by simp)) harr⟩
  | panic ch => exact ⟨_, a₁, w₁, hq, .pass (x := .inLoop c) rfl (fun _ _ => .inl (by simp)) harr⟩
  | outgrown => exact ⟨_, a₁, w₁, hq, .pass (x := .inLoop c) rfl (fun _ _ => .inl (by simp)) harr⟩

theorem loop_wp {r : Option Nat} {P : Program} {c : Code} {Q : Exit → Act → World → Prop} {a : Act} {w : World} (h : LoopWp r P c Q a w) : (Code.loop c).wpIn (FW r) 0 P Q a w :=
  fun b k cs hro _ _ => let ⟨e, a', w', hq, harr⟩ := h b k cs hro; ⟨e, a', w', hq, .of_steps (.one (fw_fenced r P _) stepR_loop) harr⟩

theorem Good.prune {B : Nat} {H : AHeap} {w : World} {G : Ghost} {n : Nat} {keep : List Nat} {Q : AQ} {a : Act} {w' : World} (h : Good B H w G n (regK keep Q) a w') : Good B H w G n (Q .normal) a w' :=
  let ⟨G', R', H', a1, a2, a3, a4, a5, a6, a7⟩ := h
  ⟨G', _, H', a1, a2, a3.prune keep, a4, a5, a6, a7⟩

theorem Fr.ghost {H H' : AHeap} {w : World} (h : ∀ b, H' b ≠ none → H b ≠ none) : Fr H w H' w := ⟨rfl, rfl, rfl, Nat.le_refl _, fun _ _ _ => rfl, fun b hb _ => h b hb⟩

theorem Good.ghost {B : Nat} {H : AHeap} {w : World} {G : Ghost} {n : Nat} {N : Regs → AHeap → Prop} {a : Act} {w' : World} (h : Good B H w G n (ghP N) a w') : Good B H w G n N a w' := by
  obtain ⟨G', R', H', a1, a2, a3, a4, a5, a6, R2, H2, ⟨b1, b2⟩, b3⟩ := h
  obtain ⟨G2, c1, c2, c3⟩ := b2 G' w' a.tmps a2 a3
  exact ⟨G2, R2, H2, Ghost.le_trans a1 c1, c2, c3, a4, a5, a6.trans (Fr.ghost b1), b3⟩

/-- A region that is left may be followed by a change of what is said. -/
theorem withGh_sound {P : Program} {b : Bool} {c : ACode} {R : Regs} {H : AHeap} {Q : AQ} (h : symb P (withGh b c) R H Q) :
    ∃ Q' : AQ, symb P c R H Q' ∧ ∀ (B : Nat) (H0 : AHeap) (w : World) (G : Ghost) (n : Nat) (a : Act) (w' : World), Good B H0 w G n (Q' .normal) a w' → Good B H0 w G n (Q .normal) a w' := by
  cases b with
  | false => exact ⟨Q, h, fun _ _ _ _ _ _ _ hg => hg⟩
  | true => exact ⟨seqK (symb P .gh) Q, h, fun _ _ _ _ _ _ _ hg => Good.ghost hg⟩

/-- An object of the machine's own is written. -/
theorem St.odd {G : Ghost} {H : AHeap} {w : World} (h : St G H w) {l : Nat} {o : Obj} (o' : Obj) (hl : w.heap[l]? = some o) (ho : oddO o = true) (hn : H l = none) : St G H (w.putObj l o') := by
  refine ⟨fun b x e => ?_, fun b n e => ?_, fun b x e => ?_, h.disj, h.nl⟩
  · have hb : b ≠ l := by
      intro hb; subst hb
      have h1 := h.fz b x e
      rw [hl] at h1; cases h1
      rw [h.nl b o e] at ho; cases ho
    rw [World.putObj_heap_other hb]; exact h.fz b x e
  · obtain ⟨arr, T, f, h1, h2⟩ := h.sh b n e
    have hb : b ≠ l := by intro hb; subst hb; rw [hl] at h1; cases h1; cases ho
    exact ⟨arr, T, f, by rw [World.putObj_heap_other hb]; exact h1, h2⟩
  · have hb : b ≠ l := by intro hb; subst hb; rw [hn] at e; cases e
    rw [World.putObj_heap_other hb]; exact h.own b x e

theorem Fr.odd {H : AHeap} {w : World} {l : Nat} (o' : Obj) (hl : w.heap.size ≤ l ∨ H l ≠ none) (H' : AHeap) (hd : ∀ b, H' b ≠ none → H b ≠ none) : Fr H w H' (w.putObj l o') := by
  refine ⟨rfl, rfl, rfl, by simp, fun b hb hn => ?_, fun b hb _ => hd b hb⟩
  rw [World.putObj_heap_other]
  intro e; subst e
  rcases hl with hl | hl
  · omega
  · exact hl hn

theorem putArgs_sound {G : Ghost} {n : Nat} : ∀ {ps : List Nat} {args : List AVal} {vs : List Value} {R : Regs} {tmps : Array Value}, RRel G R tmps → tmps.size = n → (∀ p, p ∈ ps → p < n) → VRels G args vs → args.length = ps.length →
    RRel G (putArgs R ps args) ((ps.zip vs).foldl (fun t (p, v) => t.setIfInBounds p v) tmps) ∧ ((ps.zip vs).foldl (fun t (p, v) => t.setIfInBounds p v) tmps).size = n
  | [], args, vs, R, tmps, hr, hn, hp, hv, hl => by
    have : args = [] := by simpa using hl
    subst this
    exact ⟨hr, hn⟩
  | p :: ps, args, vs, R, tmps, hr, hn, hp, hv, hl => by
    obtain ⟨a, args, rfl⟩ : ∃ a r, args = a :: r := by cases args with | nil => simp at hl | cons a r => exact ⟨a, r, rfl⟩
    obtain ⟨v, vs, rfl⟩ : ∃ v r, vs = v :: r := by cases vs with | nil => exact absurd hv.1 (by simp) | cons v r => exact ⟨v, r, rfl⟩
    simp only [putArgs, List.zip_cons_cons, List.foldl_cons]
    exact putArgs_sound (hr.put (by rw [hn]; exact hp p (by simp)) (hv.2 0 a v rfl rfl)) (by simp [hn]) (fun q hq => hp q (by simp [hq])) ⟨by simpa using hv.1, fun i c u h1 h2 => hv.2 (i + 1) c u (by simpa using h1) (by simpa using h2)⟩ (by simpa using hl)

/-- What the soundness of a piece of code says. -/
def CSound (P : Program) (n : Nat) (c : Code) : Prop :=
  ∀ {ann : Ann} {r : Option Nat} {ac : ACode} {B : Nat}, ann.rd = r.isSome → genCode P n ann c = some ac → ∀ {Q : AQ} {R : Regs} {H : AHeap} {G : Ghost} {w : World} {a : Act} {Qf : Exit → Act → World → Prop},
    symb P ac R H Q → St G H w → RRel G R a.tmps → a.tmps.size = n → B ≤ w.heap.size → MarksOk B a.defers w → (∀ e a' w', QC B H w G n Q e a' w' → Qf e a' w') → c.wpIn (FW r) 0 P Qf a w

theorem loopAt_idem (r : Loop) (s t : Nat) : loopAt (loopAt r s) t = loopAt r t := by
  match s, t with
  | 0, 0 => rfl
  | 0, 1 => rfl
  | 0, _ + 2 => rfl
  | 1, 0 => rfl
  | 1, 1 => rfl
  | 1, _ + 2 => rfl
  | _ + 2, 0 => rfl
  | _ + 2, 1 => rfl
  | _ + 2, _ + 2 => rfl

theorem AHeap.set_del {H : AHeap} {l : Nat} {o : AObj} {b : Nat} (h : b ≠ l) : (H.set l o) b = H b := by simp [AHeap.set, h]

/-- A round, out of its code. -/
theorem round_sound {P : Program} {n : Nat} {ann : Ann} {assign body : Code} {ac bc : ACode} (ha : CSound P n assign) (hb : CSound P n body) (hac : genCode P n { ann with rd := true } assign = some ac) (hbc : genCode P n { ann with rd := true } body = some bc)
    {l : Nat} {r : Loop} {L : List (Nat × AVal)} (hra : r.assign = assign) (hrb : r.body = body) (hn : r.tmps.size = n) (hp : ∀ p, p ∈ r.params.toList → p < n) : Rounds P r.params.toList (symb P ac) (symb P bc) l r L := by
  intro args H K hlen hHl h G w vs hs hv
  obtain ⟨ob, hob, ho⟩ := hs.own l _ hHl
  have hL : ob = .loop (loopAt r 0) ∧ RRel G (ofL L) r.tmps := by
    cases ho with
    | loop _ _ hh => exact ⟨rfl, hh⟩
  obtain ⟨rfl, hRL⟩ := hL
  have hll := lt_of_heap hob
  have hvl : vs.toArray.size = (loopAt r 0).params.size := by
    show vs.toArray.size = r.params.size
    rw [List.size_toArray, hv.1, hlen]
    simp
  refine ⟨_, _, _, _, run_yield hob hvl, ?_⟩
  have hfold : ((loopAt r 0).params.zip vs.toArray).foldl (fun tmps (t, a) => tmps.setIfInBounds t a) (loopAt r 0).tmps = (r.params.toList.zip vs).foldl (fun t (p, v) => t.setIfInBounds p v) r.tmps := by
    show (r.params.zip vs.toArray).foldl (fun tmps (t, a) => tmps.setIfInBounds t a) r.tmps = _
    rw [← Array.foldl_toList, Array.toList_zip]
  rw [hfold]
  obtain ⟨hr1, hn1⟩ := putArgs_sound hRL hn hp hv hlen
  have hdl : (H.del l).le H := fun b o e => by
    unfold AHeap.del at e
    by_cases hbl : b = l
    · simp [hbl] at e
    · simpa [hbl] using e
  have hdn : (H.del l) l = none := by simp [AHeap.del]
  have hs1 : St G (H.del l) w := hs.less hdl
  show RoundIn Fence.wide 0 P l r.fn _ r.assign r.body w (Post H w G K)
  rw [hra, hrb]
  refine roundIn_of_wpIn trivial ?_
  refine ha (r := some l) (B := 0) rfl hac h hs1 hr1 hn1 (Nat.zero_le _) (MarksOk.nil 0 w) (fun e a1 w1 he => ?_)
  cases e with
  | normal =>
    obtain ⟨G2, R2, H2, b1, b2, b3, b4, b5, b6, b7⟩ := he
    have hn2 : H2 l = none := by
      cases e : H2 l with
      | none => rfl
      | some o => exact absurd (hdn) (b6.dom l (by rw [e]; simp) hll)
    have hw1 : w1.heap[l]? = some (.loop (loopAt r 0)) := by rw [b6.keep l hll hdn]; exact hob
    refine ⟨_, run_beginRound hw1 rfl, ?_⟩
    have hs3 := b2.odd (.loop { loopAt r 0 with state := .busy }) hw1 rfl hn2
    have hbusy : (w1.putObj l (.loop { loopAt r 0 with state := .busy })).heap[l]? = some (.loop { loopAt r 0 with state := .busy }) := World.putObj_heap_same (lt_of_heap hw1)
    refine hb (r := some l) (B := 0) rfl hbc b7 hs3 b3 b4 (Nat.zero_le _) ?_ (fun e a2 w2 he2 => ?_)
    · obtain ⟨Ds, m1, m2, m3⟩ := b5
      refine ⟨Ds, m1, m2, fun D hD => ⟨(m3 D hD).1, ?_⟩⟩
      rw [World.putObj_heap_other]
      · exact (m3 D hD).2
      · intro e; subst e; have := (m3 _ hD).2; rw [hw1] at this; cases this
    · have fin : ∀ (jump : Option Code) (st : Nat) (K1 : Regs → AHeap → Prop), (∀ R' H', K1 R' H' → H' l = none → K (.b jump.isNone) (H'.set l (.loop (loopAt r st) L))) →
          ({ ({ loopAt r 0 with state := .busy } : Loop) with state := if jump.isNone then .ready else .done, pending := jump } : Loop) = loopAt r st →
          Good 0 H2 (w1.putObj l (.loop { loopAt r 0 with state := .busy })) G2 n K1 a2 w2 →
          ∃ v w', (Instr.endRound l jump).run P w2 = .ok v w' ∧ Post H w G K (.returned v) w' := by
        rintro jump st K1 hK hst ⟨G3, R3, H3, c1, c2, c3, c4, c5, c6, c7⟩
        have hw2 : w2.heap[l]? = some (.loop { loopAt r 0 with state := .busy }) := by rw [c6.keep l (by simpa using lt_of_heap hw1) hn2]; exact hbusy
        have hn3 : H3 l = none := by
          cases e : H3 l with
          | none => rfl
          | some o => exact absurd hn2 (c6.dom l (by rw [e]; simp) (by simpa using lt_of_heap hw1))
        refine ⟨_, _, run_endRound jump hw2, _, G3, .b jump.isNone, H3.set l (.loop (loopAt r st) L), rfl, Ghost.le_trans b1 c1, ?_, .raw _, ?_, hK _ _ c7 hn3⟩
        · rw [hst]
          have hs4 := c2.odd (.loop (loopAt r st)) hw2 rfl hn3
          refine ⟨hs4.fz, hs4.sh, fun b o e => ?_, fun b hb => ?_, hs4.nl⟩
          · by_cases hbl : b = l
            · subst hbl
              simp only [AHeap.set, if_true] at e
              cases e
              refine ⟨_, World.putObj_heap_same (lt_of_heap hw2), .loop _ _ ?_⟩
              have : (loopAt r st).tmps = r.tmps := by match st with
                | 0 => rfl
                | 1 => rfl
                | _ + 2 => rfl
              rw [this]
              exact hRL.mono (Ghost.le_trans b1 c1)
            · rw [AHeap.set_del hbl] at e
              exact hs4.own b o e
          · by_cases hbl : b = l
            · subst hbl
              cases e : G3.fz b with
              | none => rfl
              | some o =>
                have h1 := c2.fz b o e
                rw [hw2] at h1
                cases h1
                exact absurd (c2.nl b _ e) (by simp [oddO])
            · rw [AHeap.set_del hbl] at hb
              exact hs4.disj b hb
        · have f1 : Fr H w (H.del l) w := Fr.less hdl
          have f2 := f1.trans b6
          refine ⟨?_, ?_, ?_, ?_, fun b hbs hbn => ?_, fun b hb hbs => ?_⟩
          · exact c6.os.trans f2.os
          · exact c6.tape.trans f2.tape
          · exact c6.output.trans f2.output
          · have h1 := f2.size; have h2 := c6.size; simp at h2 ⊢; omega
          · have hbl : b ≠ l := by intro e; subst e; rw [hHl] at hbn; cases hbn
            have hb1 : (H.del l) b = none := by unfold AHeap.del; rw [if_neg hbl]; exact hbn
            have hbs1 : b < w1.heap.size := Nat.lt_of_lt_of_le hbs b6.size
            have hb2 : H2 b = none := by
              cases e : H2 b with
              | none => rfl
              | some o => exact absurd hb1 (b6.dom b (by rw [e]; simp) hbs)
            rw [World.putObj_heap_other hbl, c6.keep b (by simpa using hbs1) hb2, World.putObj_heap_other hbl, b6.keep b hbs hb1]
          · by_cases hbl : b = l
            · subst hbl; rw [hHl]; simp
            · rw [AHeap.set_del hbl] at hb
              have h1 := c6.dom b hb (by simpa using Nat.lt_of_lt_of_le hbs b6.size)
              have h2 := b6.dom b h1 hbs
              unfold AHeap.del at h2
              rw [if_neg hbl] at h2
              exact h2
      cases e with
      | normal => exact fin none 0 _ (fun R' H' h => h) rfl he2
      | ret => exact fin (some .ret) 1 _ (fun R' H' h => h) rfl he2
      | exit id => exact fin (some (.exit id)) (id + 2) _ (fun R' H' h => h) rfl he2
      | _ => exact he2.elim
  | ret => obtain ⟨_, _, _, _, _, _, _, _, _, a7⟩ := he; exact a7.elim
  | exit id => obtain ⟨_, _, _, _, _, _, _, _, _, a7⟩ := he; exact a7.elim
  | _ => exact he.elim

theorem code_sound {P : Program} (hm : P.follows .mixedOrders = true) {n : Nat} : ∀ (c : Code), CSound P n c := by
  intro c
  induction c with
  | skip =>
    intro ann r ac B hrd hg Q R H G w a Qf h hs hr hn hB hd hq
    simp only [genCode] at hg
    cases hg
    exact wpIn_skip (hq _ _ _ ⟨G, R, H, G.le_refl, hs, hr, hn, hd, Fr.refl H w, h⟩)
  | ret =>
    intro ann r ac B hrd hg Q R H G w a Qf h hs hr hn hB hd hq
    simp only [genCode] at hg
    cases hg
    exact wpIn_ret (hq _ _ _ ⟨G, R, H, G.le_refl, hs, hr, hn, hd, Fr.refl H w, h⟩)
  | exit id =>
    intro ann r ac B hrd hg Q R H G w a Qf h hs hr hn hB hd hq
    simp only [genCode] at hg
    cases hg
    exact wpIn_exit (hq _ _ _ ⟨G, R, H, G.le_refl, hs, hr, hn, hd, Fr.refl H w, h⟩)
  | region id ops draw =>
    intro ann r ac B hrd hg Q R H G w a Qf h hs hr hn hB hd hq
    simp only [genCode] at hg
    obtain ⟨l, hl, hrel, hcase⟩ := genRegion_spec hg
    rcases hcase with ⟨rfl, rfl⟩ | ⟨rs, rfl, hsafe, rfl⟩
    · obtain ⟨Q', h, hQ⟩ := withGh_sound h
      refine wpIn_region (ops_sound hl hrel (List.range ops.size) (fun i hi => by simpa using hi) hs hr hn hd (N := regK (ann.keepAt id) Q') ?_ (fun a' w' hg' => hq _ _ _ (hQ _ _ _ _ _ _ _ hg'.prune)))
      have : (List.range ops.size).map (fun i => l.getD i default) = l := by
        apply List.ext_getElem
        · simp [hl]
        · intro i h1 h2
          simp [List.getD, h2]
      rw [this]
      exact h
    · obtain ⟨Q', h, hQ⟩ := withGh_sound h
      refine wpIn_region_draw fun t => ?_
      simp only [Region.schedule, hm, Bool.true_or, if_true]
      obtain ⟨r, hrm, himp⟩ := safe_spec (P := P) hsafe t
      have hord := linearise_order (isOrder_spec (by unfold safe at hsafe; simp only [Bool.and_eq_true] at hsafe; exact hsafe.1.1)) t
      have hT := himp (regK (ann.keepAt id) Q') R H (allW_mem (List.mem_map.2 ⟨r, hrm, rfl⟩) h)
      have hs' : St G H { w with drawn := w.drawn + 1 } := hs.of_heap rfl
      refine ops_sound hl hrel _ (fun i hi => by have := hord.perm.mem_iff.1 hi; simpa using this) hs' hr hn hd hT (fun a' w' hg' => hq _ _ _ (hQ _ _ _ _ _ _ _ ?_))
      exact Good.trans (w := w) (w1 := { w with drawn := w.drawn + 1 }) G.le_refl (Fr.of_heap (w := w) (w' := { w with drawn := w.drawn + 1 }) ⟨rfl, rfl, rfl⟩ rfl) hg'.prune
  | seq x y ihx ihy =>
    intro ann r ac B hrd hg Q R H G w a Qf h hs hr hn hB hd hq
    simp only [genCode] at hg
    obtain ⟨ax, hx, hg1⟩ := bind_some' hg
    obtain ⟨ay, hy, hg2⟩ := bind_some' hg1
    cases hg2
    refine wpIn_seq (ihx hrd hx (Q := seqK (symb P ay) Q) h hs hr hn hB hd (fun e a' w' he => ?_))
    cases e with
    | normal =>
      obtain ⟨G', R', H', a1, a2, a3, a4, a5, a6, a7⟩ := he
      exact ihy hrd hy (Q := Q) a7 a2 a3 a4 (Nat.le_trans hB a6.size) a5 (fun e a'' w'' he => hq _ _ _ (he.trans a1 a6))
    | exit id => exact hq _ _ _ he
    | ret => exact hq _ _ _ he
    | _ => exact he.elim
  | cond x c1 c2 ih1 ih2 =>
    intro ann r ac B hrd hg Q R H G w a Qf h hs hr hn hB hd hq
    simp only [genCode] at hg
    obtain ⟨a1, h1, hg1⟩ := bind_some' hg
    obtain ⟨a2, h2, hg2⟩ := bind_some' hg1
    cases hg2
    simp only [symb] at h
    unfold condP at h
    split at h
    · rename_i t ht
      have he := VRel.raw_inv (ev_sound hr ht)
      refine wpIn_cond he ?_
      cases t with
      | true => exact ih1 hrd h1 h hs hr hn hB hd hq
      | false => exact ih2 hrd h2 h hs hr hn hB hd hq
    · exact h.elim
  | block id c ih =>
    intro ann r ac B hrd hg Q R H G w a Qf h hs hr hn hB hd hq
    simp only [genCode] at hg
    obtain ⟨ac', hc, hg1⟩ := bind_some' hg
    cases hg1
    refine wpIn_block (ih hrd hc (Q := blockK id Q) h hs hr hn hB hd (fun e a' w' he => ?_))
    cases e with
    | normal => exact hq _ _ _ he
    | exit id' =>
      simp only [Exit.inBlock]
      obtain ⟨G', R', H', a1, a2, a3, a4, a5, a6, a7⟩ := he
      simp only [blockK] at a7
      split
      · rename_i hid
        rw [if_pos hid] at a7
        exact hq _ _ _ ⟨G', R', H', a1, a2, a3, a4, a5, a6, a7⟩
      · rename_i hid
        rw [if_neg hid] at a7
        exact hq _ _ _ ⟨G', R', H', a1, a2, a3, a4, a5, a6, a7⟩
    | ret => exact hq _ _ _ he
    | _ => exact he.elim
  | loop c ih =>
    intro ann r ac B hrd hg Q R H G w a Qf h hs hr hn hB hd hq
    simp only [genCode] at hg
    obtain ⟨ac', hc, hg1⟩ := bind_some' hg
    cases hg1
    refine loop_wp ?_
    refine h (fun R H => ∀ (G : Ghost) (w : World) (a : Act) (Qf : Exit → Act → World → Prop), St G H w → RRel G R a.tmps → a.tmps.size = n → B ≤ w.heap.size → MarksOk B a.defers w → (∀ e a' w', QC B H w G n Q e a' w' → Qf e a' w') → LoopWp r P c Qf a w) ?_ ?_ G w a Qf hs hr hn hB hd hq
    · rintro R H R' H' ⟨b1, b2⟩ hX G w a Qf hs hr hn hB hd hq
      obtain ⟨G', c1, c2, c3⟩ := b2 G w a.tmps hs hr
      exact hX G' w a Qf c2 c3 hn hB hd (fun e a' w' he => hq _ _ _ (he.trans c1 (Fr.ghost b1)))
    intro R H hbody G w a Qf hs hr hn hB hd hq
    refine loop_round (ih hrd hc hbody hs hr hn hB hd (fun e a' w' he => ?_))
    cases e with
    | normal =>
      obtain ⟨G', R', H', a1, a2, a3, a4, a5, a6, a7⟩ := he
      exact a7 G' w' a' Qf a2 a3 a4 (Nat.le_trans hB a6.size) a5 (fun e a'' w'' he => hq _ _ _ (he.trans a1 a6))
    | exit id => exact hq _ _ _ he
    | ret => exact hq _ _ _ he
    | _ => exact he.elim
  | rangeFunc g ps assign body iha ihb =>
    intro ann r ac B hrd hg Q R H G w a Qf h hs hr hn hB hd hq
    simp only [genCode] at hg
    obtain ⟨aa, hga, hg1⟩ := bind_some' hg
    obtain ⟨bb, hgb, hg2⟩ := bind_some' hg1
    split at hg2
    · cases hg2
    · rename_i hnot
      cases hg2
      simp only [Bool.or_eq_true, Bool.not_eq_true', not_or, Bool.not_eq_true, Bool.not_eq_false] at hnot
      obtain ⟨hrdf, hps⟩ := hnot
      have hrn : r = none := by
        rw [hrdf] at hrd
        cases r with
        | none => rfl
        | some l => cases hrd
      subst hrn
      generalize ((ann.rk.find? fun p => p.1 == ps.toList).map (·.2)).getD [] = keep at h
      simp only [symb, rfP] at h
      split at h
      · rename_i f cap hgv
        obtain ⟨hen, h⟩ := h
        have hv : VRel G (.fn f cap) (a.eval g) := ev_sound (x := g) hr hgv
        generalize hx : a.eval g = x at hv
        cases hv with
        | fn _ _ vs hvn hvh =>
          refine wpIn_rangeFunc fun fn _ => ?_
          have hfzl : ∀ b, w.heap.size ≤ b → G.fz b = none := fun b hb => by
            cases e : G.fz b with
            | none => rfl
            | some o => have := lt_of_heap (hs.fz b o e); omega
          have hHl : ∀ b, w.heap.size ≤ b → H b = none := fun b hb => by
            cases e : H b with
            | none => rfl
            | some o => obtain ⟨ob, h1, _⟩ := hs.own b o e; have := lt_of_heap h1; omega
          obtain ⟨rec, hrec⟩ : ∃ rec : Loop, rec = { state := .ready, pending := none, fn, tmps := a.tmps, params := ps, assign, body, defers := w.heap.size } := ⟨_, rfl⟩
          obtain ⟨w1, hw1⟩ : ∃ w1 : World, w1 = (w.alloc (.deferred (some []))).alloc (.loop rec) := ⟨_, rfl⟩
          have hheap : w1.heap = (w.heap.push (.deferred (some []))).push (.loop rec) := by rw [hw1]; rfl
          have hold : ∀ b, b < w.heap.size → w1.heap[b]? = w.heap[b]? := fun b hb => by
            rw [hheap, Array.getElem?_push, if_neg (by simp; omega), Array.getElem?_push, if_neg (by omega)]
          have hwl : w1.heap[w.heap.size + 1]? = some (.loop rec) := by
            rw [hheap, Array.getElem?_push, if_pos (by simp)]
          have hwd : w1.heap[w.heap.size]? = some (.deferred (some [])) := by
            rw [hheap, Array.getElem?_push, if_neg (by simp), Array.getElem?_push, if_pos rfl]
          have hrel : ORel G (w.heap.size + 1) (.loop rec (prune R keep)) (.loop rec) := .loop _ _ (by rw [hrec]; exact hr.prune keep)
          have hs1 : St G (H.set (w.heap.size + 1) (.loop rec (prune R keep))) w1 := by
            refine ⟨fun b o e => ?_, fun b n e => ?_, fun b o e => ?_, fun b hb => ?_, hs.nl⟩
            · have := hs.fz b o e; rw [hold b (lt_of_heap this)]; exact this
            · obtain ⟨arr, T, f, e', hn⟩ := hs.sh b n e
              exact ⟨arr, T, f, by rw [hold b (lt_of_heap e')]; exact e', hn⟩
            · by_cases hbl : b = w.heap.size + 1
              · subst hbl
                simp only [AHeap.set, if_true] at e
                cases e
                exact ⟨_, hwl, hrel⟩
              · rw [AHeap.set_del hbl] at e
                obtain ⟨ob, h1, h2⟩ := hs.own b o e
                exact ⟨ob, by rw [hold b (lt_of_heap h1)]; exact h1, h2⟩
            · by_cases hbl : b = w.heap.size + 1
              · exact hfzl b (by omega)
              · rw [AHeap.set_del hbl] at hb
                exact hs.disj b hb
          have hf1 : Fr H w (H.set (w.heap.size + 1) (.loop rec (prune R keep))) w1 := by
            refine ⟨by rw [hw1]; rfl, by rw [hw1]; rfl, by rw [hw1]; rfl, by rw [hheap]; simp; omega, fun b hb _ => hold b hb, fun b hb hbs => ?_⟩
            rw [AHeap.set_del (by omega)] at hb
            exact hb
          have hround : Rounds P ps.toList (symb P aa) (symb P bb) (w.heap.size + 1) rec (prune R keep) := by
            have := round_sound (l := w.heap.size + 1) (r := rec) (L := prune R keep) iha ihb hga hgb (by rw [hrec]) (by rw [hrec]) (by rw [hrec]; exact hn) (by
              intro p hp
              rw [hrec] at hp
              have := List.all_eq_true.1 hps p hp
              simpa using this)
            rw [show rec.params = ps by rw [hrec]] at this
            exact this
          have hrec0 : loopAt rec 0 = rec := by rw [hrec]; rfl
          have hcall := h (w.heap.size + 1) rec (hHl _ (by omega)) hround
          rw [hrec0] at hcall
          have hcap : VRels G (.yd (w.heap.size + 1) :: cap) (.func (.yield (w.heap.size + 1)) #[] #[] :: vs.toList) := by
            refine ⟨by simpa using hvn, fun i c v h1 h2 => ?_⟩
            cases i with
            | zero => simp at h1 h2; subst h1; subst h2; exact .yd _
            | succ i => exact hvh i c v (by simpa using h1) (by simpa using h2)
          have hc2 := hcall G w1 _ hs1 hcap
          refine ⟨w.heap.size + 1, [{ target := .collected w.heap.size, args := #[] }], w1, { target := .fn (.func f) vs, args := #[] ++ (#[Operand.const (.func (.yield (w.heap.size + 1)) #[] #[])]).map a.eval }, w1, f, (.func (.yield (w.heap.size + 1)) #[] #[] :: vs.toList).toArray, w1, ?_, ?_, fun _ _ => trivial, ?_, (fun hd => by cases hd), ?_⟩
          · rw [hw1, hrec]
            exact run_enterLoop_outer fn a.tmps ps assign body
          · unfold resolve
            simp only [hx]
            have : (Deferred.ofValue (.func (.func f) #[] vs) ((#[Operand.const (.func (.yield (w.heap.size + 1)) #[] #[])]).map a.eval)) = pure { target := .fn (.func f) vs, args := #[] ++ (#[Operand.const (.func (.yield (w.heap.size + 1)) #[] #[])]).map a.eval } := rfl
            rw [this, run_pure]
          · simp only [invoke]
            rw [run_callFunc hen]
            have hev : a.eval (.const (.func (.yield (w.heap.size + 1)) #[] #[])) = .func (.yield (w.heap.size + 1)) #[] #[] := rfl
            congr 2
            apply Array.ext'
            simp [hev]
          · have h3 : CallsIn (FW none) (0 - 1) P f (.func (.yield (w.heap.size + 1)) #[] #[] :: vs.toList).toArray w1 _ := (callsIn_wide (n := 0 - 1)).2 hc2
            refine CallsIn.mono h3 fun e w3 he => ?_
            obtain ⟨cv, G3, v3, H3, rfl, c1, c2, c3, c4, st, c5, c6⟩ := he
            obtain ⟨ob, hob, ho⟩ := c2.own _ _ c5
            cases ho
            have hbz : (loopAt rec st).state ≠ .busy := by match st with
              | 0 => simp [loopAt]
              | 1 => simp [loopAt]
              | _ + 2 => simp [loopAt]
            refine ⟨_, _, run_endLoop hob hbz, ?_⟩
            have hdn : (H3.del (w.heap.size + 1)) (w.heap.size + 1) = none := by simp [AHeap.del]
            have hdl : (H3.del (w.heap.size + 1)).le H3 := fun b o e => by
              unfold AHeap.del at e
              by_cases hbl : b = w.heap.size + 1
              · simp [hbl] at e
              · simpa [hbl] using e
            have hs4 : St G3 (H3.del (w.heap.size + 1)) (w3.putObj (w.heap.size + 1) (.loop { loopAt rec st with state := .exhausted })) := (c2.less hdl).odd _ hob rfl hdn
            have hD : (w3.putObj (w.heap.size + 1) (.loop { loopAt rec st with state := .exhausted })).heap[w.heap.size]? = some (.deferred (some [])) := by
              rw [World.putObj_heap_other (by omega), c4.keep _ (lt_of_heap hwd) (by rw [AHeap.set_del (by omega)]; exact hHl _ (Nat.le_refl _))]
              exact hwd
            have f2 := hf1.trans c4
            have f3 : Fr H w (H3.del (w.heap.size + 1)) (w3.putObj (w.heap.size + 1) (.loop { loopAt rec st with state := .exhausted })) := by
              refine ⟨f2.os, f2.tape, f2.output, by have := f2.size; simp; omega, fun b hb hbn => ?_, fun b hb hbs => ?_⟩
              · rw [World.putObj_heap_other (by omega)]; exact f2.keep b hb hbn
              · refine f2.dom b ?_ hbs
                cases e : (H3.del (w.heap.size + 1)) b with
                | none => exact absurd e hb
                | some o => rw [hdl b o e]; simp
            have hmarks : MarksOk B ([({ target := .collected w.heap.size, args := #[] } : Deferred)] ++ a.defers) (w3.putObj (w.heap.size + 1) (.loop { loopAt rec st with state := .exhausted })) := by
              have hold := hd
              obtain ⟨Ds, m1, m2, m3⟩ := hd.fr hs f3
              refine ⟨w.heap.size :: Ds, by rw [m1]; rfl, List.nodup_cons.2 ⟨fun hin => ?_, m2⟩, fun D hD' => ?_⟩
              · obtain ⟨Ds0, k1, k2, k3⟩ := hold
                have hinj : Ds = Ds0 := by
                  rw [m1] at k1
                  have hi : Function.Injective (fun D : Nat => ({ target := .collected D, args := #[] } : Deferred)) := fun x y e => by
                    injection e with e _
                    injection e
                  exact List.map_inj_right (fun x y e => hi e) |>.1 k1
                subst hinj
                have := lt_of_heap (k3 _ hin).2
                omega
              · rcases List.mem_cons.1 hD' with rfl | hD'
                · exact ⟨hB, hD⟩
                · exact m3 D hD'
            have hgood : ∀ N : Regs → AHeap → Prop, N R (H3.del (w.heap.size + 1)) → Good B H w G n N { a with defers := [({ target := .collected w.heap.size, args := #[] } : Deferred)] ++ a.defers } (w3.putObj (w.heap.size + 1) (.loop { loopAt rec st with state := .exhausted })) :=
              fun N hN => ⟨G3, R, _, c1, hs4, hr.mono c1, hn, hmarks, f3, hN⟩
            match st, c6, hgood with
            | 0, c6, hgood => exact hq .normal _ _ (hgood _ c6)
            | 1, c6, hgood => exact wpIn_ret (hq .ret _ _ (hgood _ c6))
            | id + 2, c6, hgood => exact wpIn_exit (hq (.exit id) _ _ (hgood _ c6))
      · exact h.elim
  | _ => intro ann r ac B hrd hg; simp [genCode] at hg

end Heron
end

section
set_option linter.unusedSimpArgs false
set_option linter.unusedVariables false
set_option linter.constructorNameAsVariable false
namespace Heron
open Go

def ARes.ev (R : Regs) (H : AHeap) : ARes → Option AVal
  | .tmp t => R t
  | .cell t ag => (R t).bind (aLoad H ag)

def resL (R : Regs) (H : AHeap) : List ARes → Option (List AVal)
  | [] => some []
  | r :: rs => match r.ev R H, resL R H rs with
    | some a, some l => some (a :: l)
    | _, _ => none

def resV : Option (List AVal) → Option AVal
  | some [v] => some v
  | some l => some (.tup l)
  | none => none

/-- What must hold where a body is left. -/
def endK (res : List ARes) (K : AVal → AHeap → Prop) : AQ
  | .normal, R, H => andV (resV (resL R H res)) K H
  | .ret, R, H => andV (resV (resL R H res)) K H
  | .exit _, _, _ => False

def regs0 : Nat → List AVal → List (Nat × AVal)
  | _, [] => []
  | k, a :: r => (k, a) :: regs0 (k + 1) r

theorem regs0_get : ∀ {args : List AVal} {k t : Nat} {a : AVal}, ofL (regs0 k args) t = some a → k ≤ t ∧ args[t - k]? = some a
  | [], k, t, a, h => by simp [regs0, ofL] at h
  | b :: args, k, t, a, h => by
    simp only [regs0, ofL] at h
    split at h
    · rename_i e
      subst e
      cases h
      exact ⟨Nat.le_refl _, by simp⟩
    · obtain ⟨h1, h2⟩ := regs0_get h
      refine ⟨by omega, ?_⟩
      rw [show t - k = (t - (k + 1)) + 1 by omega]
      simpa using h2

theorem run_asAddr {P : Program} {w : World} {G : Ghost} {H : AHeap} (hs : St G H w) {t : TypeId} {ag : Option Nat} (ht : tyAgg P t = some ag) {p v : AVal} {pv : Value} (hp : VRel G p pv) (hl : aLoad H ag p = some v) :
    ∃ cv, (do loadVar t (← asAddr pv) : Sem Value).run P w = .ok cv w ∧ VRel G v cv := by
  obtain ⟨cv, h1, h2⟩ := load_sound hs ht hp hl
  have : ∃ ad, pv = .pointer (some ad) := by
    cases p <;> simp only [aLoad] at hl <;> try (cases hl)
    · cases hp; exact ⟨_, rfl⟩
    · cases hp; exact ⟨_, rfl⟩
  obtain ⟨ad, rfl⟩ := this
  exact ⟨cv, h1, h2⟩

theorem res_sound {P : Program} {w : World} {G : Ghost} {H : AHeap} (hs : St G H w) {R : Regs} {tmps : Array Value} (hr : RRel G R tmps) :
    ∀ {rs : List ResultVar} {as : List ARes} {l : List AVal}, rs.mapM (fun r => match r with
      | .tmp t => some (ARes.tmp t)
      | .cell t ty => do some (ARes.cell t (← tyAgg P ty))) = some as → resL R H as = some l →
      ∃ vs : List Value, (rs.mapM fun (r : ResultVar) => (match r with
        | .tmp t => pure (tmps.getD t undef)
        | .cell a t => do loadVar t (← asAddr (tmps.getD a undef)) : Sem Value)).run P w = .ok vs w ∧ VRels G l vs
  | [], as, l, h, hl => by
    simp at h
    subst h
    simp only [resL] at hl
    cases hl
    exact ⟨[], rfl, rfl, fun i c v h _ => by simp at h⟩
  | r :: rs, as, l, h, hl => by
    rw [List.mapM_cons] at h
    obtain ⟨a, ha, h1⟩ := bind_some' h
    obtain ⟨as', has, h2⟩ := bind_some' h1
    cases h2
    simp only [resL] at hl
    split at hl
    · rename_i u l' hu hl'
      cases hl
      obtain ⟨vs, e1, e2⟩ := res_sound hs hr has hl'
      have one : ∃ cv, ((match r with
        | .tmp t => pure (tmps.getD t undef)
        | .cell a t => do loadVar t (← asAddr (tmps.getD a undef)) : Sem Value)).run P w = .ok cv w ∧ VRel G u cv := by
        cases r with
        | tmp t =>
          simp only at ha
          cases ha
          obtain ⟨v, hv, hvr⟩ := hr t u hu
          exact ⟨v, by simp only [Array.getD_eq_getD_getElem?, hv]; rfl, hvr⟩
        | cell t ty =>
          simp only at ha
          obtain ⟨ag, hag, ha2⟩ := bind_some' ha
          cases ha2
          simp only [ARes.ev] at hu
          obtain ⟨p, hp, hu⟩ := obind hu
          obtain ⟨v, hv, hvr⟩ := hr t p hp
          simp only [Array.getD_eq_getD_getElem?, hv, Option.getD_some]
          exact run_asAddr hs hag hvr hu
      obtain ⟨cv, f1, f2⟩ := one
      refine ⟨cv :: vs, ?_, by simp [e2.1], fun i c v h1 h2 => ?_⟩
      · rw [List.mapM_cons, run_bind, f1]
        simp only []
        rw [run_bind, e1]
        rfl
      · cases i with
        | zero => simp at h1 h2; subst h1; subst h2; exact f2
        | succ i => exact e2.2 i c v (by simpa using h1) (by simpa using h2)
    · cases hl

theorem results_sound {P : Program} {w : World} {G : Ghost} {H : AHeap} (hs : St G H w) {R : Regs} {tmps : Array Value} (hr : RRel G R tmps) {fn : Func} {as : List ARes} {v : AVal}
    (h : fn.results.toList.mapM (fun r => match r with
      | .tmp t => some (ARes.tmp t)
      | .cell t ty => do some (ARes.cell t (← tyAgg P ty))) = some as) (hv : resV (resL R H as) = some v) : ∃ cv, (results fn tmps).run P w = .ok cv w ∧ VRel G v cv := by
  cases hl : resL R H as with
  | none => rw [hl] at hv; cases hv
  | some l =>
    rw [hl] at hv
    obtain ⟨vs, e1, e2⟩ := res_sound hs hr h hl
    unfold results
    rw [Array.mapM_eq_mapM_toList]
    simp only [map_eq_pure_bind, bind_assoc, pure_bind]
    rw [run_bind]
    generalize hX : Sem.run P (List.mapM _ fn.results.toList) w = X
    have hX' : X = .ok vs w := by rw [← hX]; exact e1
    subst hX'
    simp only []
    rw [run_pure]
    refine ⟨_, rfl, ?_⟩
    have hlen := e2.1
    match l, vs, hlen with
    | [], [], _ =>
      simp only [resV] at hv
      cases hv
      simp only [List.size_toArray, List.length_nil, Nat.zero_ne_one, dif_neg, not_false_eq_true]
      exact .tup [] #[] rfl (fun i c v h _ => by simp at h)
    | [a], [u], _ =>
      simp only [resV] at hv
      cases hv
      simp only [List.size_toArray, List.length_singleton, dif_pos]
      exact e2.2 0 _ u rfl rfl
    | a :: b :: r, x :: y :: z, hlen =>
      simp only [resV] at hv
      cases hv
      have : ¬ ((x :: y :: z).toArray.size = 1) := by simp
      rw [dif_neg this]
      exact .tup _ _ (by simpa using hlen) (fun i c v h1 h2 => e2.2 i c v h1 (by simpa using h2))

/-- A function is left, its marks come to. -/
theorem leave_marks {P : Program} {fn : Func} {tmps : Array Value} {Rr : Ending → World → Prop} {H H' : AHeap} {w : World} {G' : Ghost} (hfin : ∀ w'', St G' H' w'' → Fr H w H' w'' → ∃ v, (results fn tmps).run P w'' = .ok v w'' ∧ Rr (.returned v) w'') :
    ∀ (Ds : List Nat) (w' : World), Ds.Nodup → (∀ D, D ∈ Ds → w.heap.size ≤ D ∧ w'.heap[D]? = some (.deferred (some []))) → St G' H' w' → Fr H w H' w' →
      LeavesInM (FW none) 0 P fn tmps Rr (Ds.map fun D => { target := .collected D, args := #[] }) .returning w'
  | [], w', _, _, hs, hf => hfin w' hs hf
  | D :: Ds, w', hnd, hD, hs, hf => by
    obtain ⟨h1, h2⟩ := hD D (by simp)
    refine ⟨by simp, .inl ⟨D, _, rfl, run_takeDeferred h2, ?_⟩⟩
    have hn : H' D = none := by
      cases e : H' D with
      | none => rfl
      | some o => obtain ⟨ob, e1, e2⟩ := hs.own D o e; rw [h2] at e1; cases e1; cases e2
    refine leave_marks hfin Ds _ (List.nodup_cons.1 hnd).2 (fun E hE => ⟨(hD E (by simp [hE])).1, ?_⟩) (hs.odd _ h2 rfl hn) ?_
    · rw [World.putObj_heap_other (fun e => by subst e; exact (List.nodup_cons.1 hnd).1 hE)]
      exact (hD E (by simp [hE])).2
    · exact ⟨hf.os, hf.tape, hf.output, by have := hf.size; simp; omega, fun b hb hbn => by rw [World.putObj_heap_other (by omega)]; exact hf.keep b hb hbn, hf.dom⟩

/-- A call is known by the run of its body's digest. -/
theorem callP_body {P : Program} (hm : P.follows .mixedOrders = true) {f : FuncId} {fn : Func} {ann : Ann} {af : AFunc} (hf : P.funcs[f]? = some fn) (hg : genFunc P ann fn = some af) {args : List AVal} {H : AHeap} {K : AVal → AHeap → Prop}
    (hn : args.length ≤ af.nparams) (h : symb P af.body (ofL (regs0 0 args)) H (endK af.res K)) : callP P f args H K := by
  intro G w vs hs hv
  unfold genFunc at hg
  obtain ⟨c, hc, hg1⟩ := bind_some' hg
  obtain ⟨ac, hac, hg2⟩ := bind_some' hg1
  obtain ⟨res, hres, hg3⟩ := bind_some' hg2
  split at hg3
  · cases hg3
  · rename_i hnot
    cases hg3
    simp only [Bool.or_eq_true, decide_eq_true_eq, not_or, Nat.not_lt] at hnot
    simp only at hn h
    have hvl : vs.length ≤ fn.ntmps := by rw [hv.1]; omega
    refine (callsIn_wide (n := 0)).1 (callsIn_of_wp_marks hf hc trivial (code_sound hm c (r := none) (B := w.heap.size) rfl hac h hs (n := fn.ntmps) ?_ (by simp; omega) (Nat.le_refl _) (MarksOk.nil _ _) ?_))
    · intro t a ht
      obtain ⟨_, ha⟩ := regs0_get ht
      have hta : t < args.length := lt_of_get? (by simpa using ha)
      have : t < vs.length := by rw [hv.1]; exact hta
      refine ⟨vs[t], ?_, hv.2 t a vs[t] (by simpa using ha) (by simp)⟩
      rw [Array.getElem?_append_left (by simpa using this)]
      simp
    · intro e a' w' he
      have fin : Good w.heap.size H w G fn.ntmps (fun R H => andV (resV (resL R H res)) K H) a' w' → LeavesInM (FW none) 0 P fn a'.tmps (Post H w G K) a'.defers .returning w' := by
        rintro ⟨G', R', H', a1, a2, a3, a4, ⟨Ds, m1, m2, m3⟩, a6, a7⟩
        rw [m1]
        refine leave_marks (H' := H') (fun w'' hs'' hf'' => ?_) Ds w' m2 m3 a2 a6
        cases hrv : resV (resL R' H' res) with
        | none => rw [hrv] at a7; exact a7.elim
        | some v =>
          rw [hrv] at a7
          obtain ⟨cv, r1, r2⟩ := results_sound hs'' a3 hres hrv
          exact ⟨cv, r1, cv, G', v, H', rfl, a1, hs'', r2, hf'', a7⟩
      cases e with
      | normal => exact fin he
      | ret => exact fin he
      | exit id => obtain ⟨_, _, _, _, _, _, _, _, _, a7⟩ := he; exact a7.elim
      | _ => exact he.elim

end Heron
end
