/- What is known stays known: the relations between abstract and real memory. What a quiet operation computes is so of the real one. Quiet operations, one by one. Operators on two values. -/
import Derived.Test.YtaeanhonfoakeaaK1
import Derived.Laws.StructEq
section
set_option linter.unusedSimpArgs false
set_option linter.unusedVariables false
namespace Heron
open Go

/-! ### Running -/
theorem run_bind {α β : Type} (P : Program) (s : Sem α) (f : α → Sem β) (w : World) :
    (s >>= f).run P w = match s.run P w with | .ok a w' => (f a).run P w' | .halt h w' => .halt h w' := by
  show (Sem.bind s f).run P w = _
  induction s generalizing w with
  | pure a => simp [Sem.bind, Sem.run]
  | load m a k ih =>
    simp only [Sem.bind, Sem.run]
    cases w.cell? a with
    | some v => exact ih v w
    | none =>
      cases h : w.farLoad P a (m == .atomic) with
      | ok r => simp only [h]; exact ih _ w
      | error e => simp only [h]
  | store m a v k ih =>
    cases v <;> simp only [Sem.bind, Sem.run] <;> (
      cases w.cell? a with
      | some _ => by_cases hf : w.frozen? a = true <;> simp [hf, ih]
      | none =>
        simp only
        split <;> simp_all)
  | new o k ih => simp only [Sem.bind, Sem.run]; exact ih _ _
  | shape r k ih => simp only [Sem.bind, Sem.run]; exact ih _ _
  | freeze a n k ih => simp only [Sem.bind, Sem.run]; exact ih _
  | frozen a k ih => simp only [Sem.bind, Sem.run]; exact ih _ _
  | getObj r k ih =>
    simp only [Sem.bind, Sem.run]
    split
    · rfl
    · exact ih _ _
    · rfl
  | setObj r o k ih =>
    simp only [Sem.bind, Sem.run]
    split
    · rfl
    · exact ih _
    · rfl
  | choose q k ih =>
    simp only [Sem.bind, Sem.run]
    split
    · exact ih _ _
    · exact ih _ _
  | sys c k ih => simp only [Sem.bind, Sem.run]; exact ih _ _
  | program k ih => simp only [Sem.bind, Sem.run]; exact ih _ _
  | mark m k ih => simp only [Sem.bind, Sem.run]; exact ih _
  | halt h => simp [Sem.bind, Sem.run]

theorem run_pure {α : Type} (P : Program) (a : α) (w : World) : (pure a : Sem α).run P w = .ok a w := rfl
theorem run_ok {α β : Type} {P : Program} {s : Sem α} {f : α → Sem β} {w w' : World} {a : α} (h : s.run P w = .ok a w') : (s >>= f).run P w = (f a).run P w' := by rw [run_bind, h]
theorem run_underlying {P : Program} {t : TypeId} {d : TypeDesc} (h : P.underlying t = some d) (w : World) : (underlying t).run P w = .ok d w := by
  unfold underlying
  rw [run_bind]
  simp [program, Sem.run, h, run_pure, pure]
theorem run_typeInfo {P : Program} {t : TypeId} {i : TypeInfo} (h : P.info? t = some i) (w : World) : (typeInfo t).run P w = .ok i w := by
  unfold typeInfo
  rw [run_bind]
  simp [program, Sem.run, h, pure]
theorem run_sizeOf {P : Program} {t : TypeId} {n : Nat} (h : tySize P t = some n) (w : World) : (Go.sizeOf t).run P w = .ok n w := by
  unfold tySize at h
  cases hi : P.info? t with
  | none => simp [hi] at h
  | some i =>
    simp [hi] at h
    unfold Go.sizeOf
    rw [run_ok (run_typeInfo hi w), run_pure, h]
theorem run_isAgg {P : Program} {t : TypeId} {ag : Option Nat} (h : tyAgg P t = some ag) (w : World) : (isAgg t).run P w = .ok ag.isSome w ∧ (∀ n, ag = some n → tySize P t = some n) := by
  unfold tyAgg at h
  cases hd : P.underlying t with
  | none => simp [hd] at h
  | some d =>
    simp only [hd] at h
    unfold isAgg
    rw [run_ok (run_underlying hd w)]
    cases hs : tySize P t with
    | none => cases d <;> simp_all [run_pure] <;> (obtain rfl := h; simp)
    | some n => cases d <;> simp_all [run_pure] <;> (first | (obtain rfl := h; simp) | skip)

/-! ### Ghosts -/
theorem Ghost.le_refl (G : Ghost) : G.le G := ⟨fun _ _ h => h, fun _ _ h => h⟩
theorem Ghost.le_trans {A B C : Ghost} (h : A.le B) (k : B.le C) : A.le C := ⟨fun b o e => k.1 b o (h.1 b o e), fun b n e => k.2 b n (h.2 b n e)⟩
theorem Ghost.cell_mono {G G' : Ghost} (h : G.le G') {b off : Nat} {v : Value} (hc : G.cell b off = some v) : G'.cell b off = some v := by
  unfold Ghost.cell at *
  cases hf : G.fz b with
  | none => simp [hf] at hc
  | some o => rw [h.1 b o hf]; rw [hf] at hc; exact hc

theorem cell_same {G G' : Ghost} (h : G.le G') {b off : Nat} {v : Value} (hs : (G.cell b off).isSome = true) (hc : G'.cell b off = some v) : G.cell b off = some v := by
  obtain ⟨u, hu⟩ := Option.isSome_iff_exists.1 hs
  rw [Ghost.cell_mono h hu] at hc
  rw [hu, hc]

theorem VRel.mono {G G' : Ghost} (hG : G.le G') {a : AVal} {v : Value} (h : VRel G a v) : VRel G' a v := by
  induction h with
  | raw v => exact .raw v
  | ptr b sz row col => exact .ptr b sz row col
  | sl b sz row len cap off n hl ho hs hn => exact .sl b sz row len cap off n hl ho (hG.2 _ _ hs) hn
  | sc b sz row col len cap off hl ho => exact .sc b sz row col len cap off hl ho
  | ro sz es a cap hl hsz ha he h ih =>
    refine .ro sz es a cap hl hsz ha (fun b off e i j c hc => ?_) (fun b off e i j c v hc hv => ?_)
    · obtain ⟨u, hu⟩ := Option.isSome_iff_exists.1 (he b off e i j c hc)
      rw [Ghost.cell_mono hG hu]; rfl
    · exact ih b off e i j c v hc (cell_same hG (he b off e i j c hc) hv)
  | rp e col b off he h ih =>
    refine .rp e col b off (fun j c hc => ?_) (fun j c v hc hv => ?_)
    · obtain ⟨u, hu⟩ := Option.isSome_iff_exists.1 (he j c hc)
      rw [Ghost.cell_mono hG hu]; rfl
    · exact ih j c v hc (cell_same hG (he j c hc) hv)
  | agg cs vs hn h ih => exact .agg cs vs hn ih
  | tup cs vs hn h ih => exact .tup cs vs hn ih
  | fn f cs vs hn h ih => exact .fn f cs vs hn ih
  | mp b => exact .mp b
  | it b => exact .it b
  | yd l => exact .yd l
  | z a => exact .z a
  | junk v hv => exact .junk v hv

theorem VRels.mono {G G' : Ghost} (hG : G.le G') {cs : List AVal} {vs : List Value} (h : VRels G cs vs) : VRels G' cs vs := ⟨h.1, fun i c v a b => (h.2 i c v a b).mono hG⟩

theorem ORel.mono {G G' : Ghost} (hG : G.le G') {b : Nat} {o : AObj} {ob : Obj} (h : ORel G b o ob) : ORel G' b o ob := by
  cases h with
  | rows sz es arr T lo hi hsz hn h hf hs => exact .rows sz es arr T lo hi hsz hn (fun i j c v a b => (h i j c v a b).mono hG) hf (hG.2 _ _ hs)
  | map kk es clock arr hn hf hk => exact .map kk es clock arr hn hf (fun i e m a b => ⟨(hk i e m a b).1, (hk i e m a b).2.1, (hk i e m a b).2.2.mono hG⟩)
  | iter m since seen stepped => exact .iter m since seen stepped
  | loop r R h => exact .loop r R (fun t a e => let ⟨v, x, y⟩ := h t a e; ⟨v, x, y.mono hG⟩)

theorem RRel.mono {G G' : Ghost} (hG : G.le G') {R : Regs} {tmps : Array Value} (h : RRel G R tmps) : RRel G' R tmps :=
  fun t a e => let ⟨v, x, y⟩ := h t a e; ⟨v, x, y.mono hG⟩

theorem RRel.put {G : Ghost} {R : Regs} {tmps : Array Value} (h : RRel G R tmps) {d : Nat} (hd : d < tmps.size) {a : AVal} {v : Value} (hv : VRel G a v) :
    RRel G (R.put d a) (tmps.setIfInBounds d v) := by
  intro t b e
  unfold Regs.put at e
  by_cases ht : t = d
  · subst ht
    simp only [if_true] at e
    cases e
    exact ⟨v, by simp [hd], hv⟩
  · simp only [ht, if_false] at e
    obtain ⟨u, hu, hr⟩ := h t b e
    exact ⟨u, by rw [Array.getElem?_setIfInBounds_ne (fun e => ht e.symm)]; exact hu, hr⟩

theorem ofL_prune {R : Regs} : ∀ {keep : List Nat} {t : Nat} {a : AVal}, ofL (prune R keep) t = some a → R t = some a
  | [], t, a, h => by simp [prune, ofL] at h
  | k :: r, t, a, h => by
    simp only [prune] at h
    cases hk : R k with
    | none => rw [hk] at h; exact ofL_prune h
    | some b =>
      rw [hk] at h
      simp only [ofL] at h
      by_cases ht : t = k
      · subst ht; simp only [if_true] at h; rw [hk, h]
      · simp only [ht, if_false] at h; exact ofL_prune h

theorem RRel.prune {G : Ghost} {R : Regs} {tmps : Array Value} (h : RRel G R tmps) (keep : List Nat) : RRel G (ofL (prune R keep)) tmps :=
  fun t a e => h t a (ofL_prune e)

/-! ### Worlds -/
structure Sm (w w' : World) : Prop where
  os : w'.os = w.os
  tape : w'.tape = w.tape
  output : w'.output = w.output

theorem Sm.refl (w : World) : Sm w w := ⟨rfl, rfl, rfl⟩
theorem Sm.trans {a b c : World} (h : Sm a b) (k : Sm b c) : Sm a c := ⟨k.os.trans h.os, k.tape.trans h.tape, k.output.trans h.output⟩

theorem lt_of_heap {w : World} {b : Nat} {o : Obj} (h : w.heap[b]? = some o) : b < w.heap.size := by
  rcases Nat.lt_or_ge b w.heap.size with h' | h'
  · exact h'
  · simp [Array.getElem?_eq_none h'] at h

theorem St.lt {G : Ghost} {H : AHeap} {w : World} (h : St G H w) {b : Nat} {o : AObj} (hb : H b = some o) : b < w.heap.size :=
  let ⟨_, e, _⟩ := h.own b o hb; lt_of_heap e

theorem St.fresh {G : Ghost} {H : AHeap} {w : World} (h : St G H w) : H w.heap.size = none := by
  cases hb : H w.heap.size with
  | none => rfl
  | some o => exact absurd (h.lt hb) (Nat.lt_irrefl _)

theorem St.fzfresh {G : Ghost} {H : AHeap} {w : World} (h : St G H w) : G.fz w.heap.size = none := by
  cases hb : G.fz w.heap.size with
  | none => rfl
  | some o => exact absurd (lt_of_heap (h.fz _ _ hb)) (Nat.lt_irrefl _)

theorem Fr.refl (H : AHeap) (w : World) : Fr H w H w := ⟨rfl, rfl, rfl, Nat.le_refl _, fun _ _ _ => rfl, fun _ h _ => h⟩

theorem Fr.trans {H H' H'' : AHeap} {w w' w'' : World} (h : Fr H w H' w') (k : Fr H' w' H'' w'') : Fr H w H'' w'' := by
  refine ⟨k.os.trans h.os, k.tape.trans h.tape, k.output.trans h.output, Nat.le_trans h.size k.size, fun b hb hn => ?_, fun b hb hl => ?_⟩
  · have hn' : H' b = none := by
      cases e : H' b with
      | none => rfl
      | some o => exact absurd hn (h.dom b (by simp [e]) hb)
    rw [k.keep b (Nat.lt_of_lt_of_le hb h.size) hn', h.keep b hb hn]
  · exact h.dom b (k.dom b hb (Nat.lt_of_lt_of_le hl h.size)) hl

theorem Fr.of_heap {H : AHeap} {w w' : World} (hs : Sm w w') (hw : w'.heap = w.heap) : Fr H w H w' :=
  ⟨hs.os, hs.tape, hs.output, by rw [hw]; exact Nat.le_refl _, fun _ _ _ => by rw [hw], fun _ h _ => h⟩

theorem St.of_heap {G : Ghost} {H : AHeap} {w w' : World} (h : St G H w) (hw : w'.heap = w.heap) : St G H w' :=
  ⟨fun b o e => by rw [hw]; exact h.fz b o e, fun b n e => by rw [hw]; exact h.sh b n e, fun b o e => by rw [hw]; exact h.own b o e, h.disj, h.nl⟩

/-- One more row of cells is known of. -/
def Ghost.addSh (G : Ghost) (b n : Nat) : Ghost := { G with sh := fun c => if c = b then some n else G.sh c }

theorem St.shfresh {G : Ghost} {H : AHeap} {w : World} (h : St G H w) : G.sh w.heap.size = none := by
  cases hb : G.sh w.heap.size with
  | none => rfl
  | some o => obtain ⟨_, _, _, e, _⟩ := h.sh _ _ hb; exact absurd (lt_of_heap e) (Nat.lt_irrefl _)

theorem Ghost.le_addSh {G : Ghost} {b : Nat} (n : Nat) (h : G.sh b = none) : G.le (G.addSh b n) := by
  refine ⟨fun _ _ e => e, fun c m e => ?_⟩
  unfold Ghost.addSh
  by_cases hc : c = b
  · subst hc; rw [h] at e; cases e
  · simp [hc, e]

/-- A new block that is no row of cells. -/
theorem St.new {G : Ghost} {H : AHeap} {w w' : World} (h : St G H w) {o : AObj} {ob : Obj} (hw : w'.heap = w.heap.push ob) (ho : ORel G w.heap.size o ob) :
    St G (H.set w.heap.size o) w' := by
  have hold : ∀ b, b < w.heap.size → w'.heap[b]? = w.heap[b]? := fun b hb => by rw [hw, Array.getElem?_push, if_neg (by omega)]
  refine ⟨fun b o e => ?_, fun b n e => ?_, fun b o' e => ?_, fun b hb => ?_, h.nl⟩
  · have := h.fz b o e; rw [hold b (lt_of_heap this)]; exact this
  · obtain ⟨arr, T, f, e', hn⟩ := h.sh b n e
    exact ⟨arr, T, f, by rw [hold b (lt_of_heap e')]; exact e', hn⟩
  · unfold AHeap.set at e
    by_cases hb : b = w.heap.size
    · subst hb
      simp only [if_true] at e
      cases e
      exact ⟨ob, by rw [hw]; simp, ho⟩
    · simp only [hb, if_false] at e
      obtain ⟨ob', e', hr⟩ := h.own b o' e
      exact ⟨ob', by rw [hold b (lt_of_heap e')]; exact e', hr⟩
  · unfold AHeap.set at hb
    by_cases hb' : b = w.heap.size
    · subst hb'; exact h.fzfresh
    · simp only [hb', if_false] at hb; exact h.disj b hb

theorem St.newSh {G : Ghost} {H : AHeap} {w w' : World} (h : St G H w) {o : AObj} {arr : Array Value} {T : TypeId} {f : Nat × Nat}
    (hw : w'.heap = w.heap.push (.cells arr T f)) (ho : ORel (G.addSh w.heap.size arr.size) w.heap.size o (.cells arr T f)) :
    St (G.addSh w.heap.size arr.size) (H.set w.heap.size o) w' := by
  have hG := Ghost.le_addSh (G := G) (b := w.heap.size) arr.size h.shfresh
  have hold : ∀ b, b < w.heap.size → w'.heap[b]? = w.heap[b]? := fun b hb => by rw [hw, Array.getElem?_push, if_neg (by omega)]
  refine ⟨fun b o e => ?_, fun b n e => ?_, fun b o' e => ?_, fun b hb => ?_, h.nl⟩
  · have := h.fz b o e; rw [hold b (lt_of_heap this)]; exact this
  · unfold Ghost.addSh at e
    by_cases hb : b = w.heap.size
    · subst hb
      simp at e
      exact ⟨arr, T, f, by rw [hw]; simp, e⟩
    · simp only [hb, if_false] at e
      obtain ⟨arr, T, f, e', hn⟩ := h.sh b n e
      exact ⟨arr, T, f, by rw [hold b (lt_of_heap e')]; exact e', hn⟩
  · unfold AHeap.set at e
    by_cases hb : b = w.heap.size
    · subst hb
      simp only [if_true] at e
      cases e
      exact ⟨_, by rw [hw]; simp, ho⟩
    · simp only [hb, if_false] at e
      obtain ⟨ob', e', hr⟩ := h.own b o' e
      exact ⟨ob', by rw [hold b (lt_of_heap e')]; exact e', hr.mono hG⟩
  · unfold AHeap.set at hb
    by_cases hb' : b = w.heap.size
    · subst hb'; exact h.fzfresh
    · simp only [hb', if_false] at hb; exact h.disj b hb

theorem Fr.new {H : AHeap} {w w' : World} (hs : Sm w w') {o : AObj} {ob : Obj} (hw : w'.heap = w.heap.push ob) : Fr H w (H.set w.heap.size o) w' := by
  refine ⟨hs.os, hs.tape, hs.output, by rw [hw]; simp, fun b hb _ => by rw [hw, Array.getElem?_push, if_neg (by omega)], fun b hb hl => ?_⟩
  unfold AHeap.set at hb
  rw [if_neg (by omega)] at hb
  exact hb

/-- An owned block is written. -/
theorem St.set {G : Ghost} {H : AHeap} {w w' : World} (h : St G H w) {b : Nat} {o o' : AObj} {ob ob' : Obj} (hb : H b = some o) (hob : w.heap[b]? = some ob)
    (hw : ∀ c, w'.heap[c]? = if c = b then some ob' else w.heap[c]?)
    (hsh : ∀ arr T f, ob = .cells arr T f → ∃ arr' T' f', ob' = .cells arr' T' f' ∧ arr'.size = arr.size) (ho : ORel G b o' ob') : St G (H.set b o') w' := by
  refine ⟨fun c x e => ?_, fun c n e => ?_, fun c x e => ?_, fun c hc => ?_, h.nl⟩
  · rw [hw, if_neg (fun ec => ?_)]
    · exact h.fz c x e
    · subst ec; have := h.disj c (by simp [hb]); rw [this] at e; cases e
  · obtain ⟨arr, T, f, e', hn⟩ := h.sh c n e
    by_cases hc : c = b
    · subst hc
      rw [hob] at e'
      cases e'
      obtain ⟨arr', T', f', e2, hn2⟩ := hsh arr T f rfl
      exact ⟨arr', T', f', by rw [hw, if_pos rfl, e2], by omega⟩
    · exact ⟨arr, T, f, by rw [hw, if_neg hc]; exact e', hn⟩
  · unfold AHeap.set at e
    by_cases hc : c = b
    · subst hc
      simp only [if_true] at e
      cases e
      exact ⟨ob', by rw [hw, if_pos rfl], ho⟩
    · simp only [hc, if_false] at e
      obtain ⟨ob'', e', hr⟩ := h.own c x e
      exact ⟨ob'', by rw [hw, if_neg hc]; exact e', hr⟩
  · unfold AHeap.set at hc
    by_cases hc' : c = b
    · subst hc'; exact h.disj c (by simp [hb])
    · simp only [hc', if_false] at hc; exact h.disj c hc

theorem Fr.set {H : AHeap} {w w' : World} (hs : Sm w w') {b : Nat} {o o' : AObj} {ob' : Obj} (hb : H b = some o) (hl : b < w.heap.size)
    (hw : ∀ c, w'.heap[c]? = if c = b then some ob' else w.heap[c]?) : Fr H w (H.set b o') w' := by
  have hsize : w.heap.size ≤ w'.heap.size := by
    rcases Nat.lt_or_ge w'.heap.size w.heap.size with h | h
    · have e := hw w'.heap.size
      simp at e
      by_cases hc : w'.heap.size = b
      · simp [hc] at e
      · simp only [hc, if_false] at e
        have : w.heap[w'.heap.size]? ≠ none := by simp [h]
        exact absurd e.symm this
    · exact h
  refine ⟨hs.os, hs.tape, hs.output, hsize, fun c hc hn => by rw [hw, if_neg (fun e => by subst e; rw [hb] at hn; cases hn)], fun c hc _ => ?_⟩
  unfold AHeap.set at hc
  by_cases hc' : c = b
  · subst hc'; simp [hb]
  · simpa [hc'] using hc

/-- Less is known of memory. -/
theorem St.less {G : Ghost} {H H' : AHeap} {w : World} (h : St G H w) (hl : AHeap.le H' H) : St G H' w :=
  ⟨h.fz, h.sh, fun b o e => h.own b o (hl b o e), fun b hb => h.disj b (by
    cases e : H' b with
    | none => exact absurd e hb
    | some o => rw [hl b o e]; simp), h.nl⟩

theorem Fr.less {H H' : AHeap} {w : World} (hl : AHeap.le H' H) : Fr H w H' w :=
  ⟨rfl, rfl, rfl, Nat.le_refl _, fun _ _ _ => rfl, fun b hb _ => by
    cases e : H' b with
    | none => exact absurd e hb
    | some o => rw [hl b o e]; simp⟩

end Heron
end

section
set_option linter.unusedSimpArgs false
set_option linter.unusedVariables false
namespace Heron
open Go

theorem VRel.raw_inv {G : Ghost} {x v : Value} (h : VRel G (.raw x) v) : v = x := by cases h; rfl

theorem vrel_ofValue (G : Ghost) (v : Value) : VRel G (.ofValue v) v := by
  cases v with
  | agg cs =>
    refine .agg _ _ (by simp) (fun i c u hc hu => ?_)
    rw [List.getElem?_map] at hc
    rw [Array.getElem?_toList, hu] at hc
    simp at hc
    subst hc
    exact .raw u
  | _ => exact .raw _

theorem ev_sound {G : Ghost} {R : Regs} {a : Act} (hr : RRel G R a.tmps) {x : Operand} {v : AVal} (h : (genX x).ev R = some v) : VRel G v (a.eval x) := by
  cases x with
  | tmp t =>
    obtain ⟨u, hu, hv⟩ := hr t v h
    simp only [Act.eval]
    rw [Array.getD_eq_getD_getElem?, hu]
    exact hv
  | const c => cases h; exact vrel_ofValue G c
  | func f => cases h; exact .fn f [] #[] rfl (fun i c v hc _ => by simp at hc)
  | global g => cases h; exact .junk _ rfl

theorem evs_sound {G : Ghost} {R : Regs} {a : Act} (hr : RRel G R a.tmps) : ∀ {xs : List Operand} {l : List AVal}, evs R (xs.map genX) = some l → VRels G l (xs.map a.eval)
  | [], l, h => by cases h; exact ⟨rfl, fun i c v hc _ => by simp at hc⟩
  | x :: xs, l, h => by
    simp only [List.map_cons, evs] at h
    cases hx : (genX x).ev R with
    | none => simp [hx] at h
    | some c =>
      cases hxs : evs R (xs.map genX) with
      | none => simp [hx, hxs] at h
      | some m =>
        simp [hx, hxs] at h
        subst h
        have ih := evs_sound hr hxs
        refine ⟨by simp [ih.1], fun i c' v hc hv => ?_⟩
        cases i with
        | zero => simp at hc hv; subst hc; subst hv; exact ev_sound hr hx
        | succ i => simp at hc hv; exact ih.2 i c' v hc (by simpa using hv)

/-! ### Cells -/
theorem add_none (b off k : Nat) : (⟨b, off, none⟩ : Addr).add k = ⟨b, off + k, none⟩ := by
  unfold Addr.add
  split
  · rename_i h; subst h; rfl
  · rfl

theorem cell?_eq {w : World} {b off : Nat} {arr : Array Value} {T : TypeId} {f : Nat × Nat} (h : w.heap[b]? = some (.cells arr T f)) : w.cell? ⟨b, off, none⟩ = arr[off]? := by
  simp [World.cell?, h]

theorem fz_cell {G : Ghost} {H : AHeap} {w : World} (hs : St G H w) {b off : Nat} {v : Value} (h : G.cell b off = some v) : w.cell? ⟨b, off, none⟩ = some v := by
  unfold Ghost.cell at h
  cases hf : G.fz b with
  | none => simp [hf] at h
  | some o =>
    rw [hf] at h
    have := hs.fz b o hf
    cases o <;> simp at h
    rw [cell?_eq this]
    exact h

theorem cellAt_some {es : List AVal} {i j : Nat} {e c : AVal} (hi : es[i]? = some e) (hj : e.cells[j]? = some c) : cellAt es i j = some c := by
  simp [cellAt, hi, hj]

theorem cellAt_inv {es : List AVal} {i j : Nat} {c : AVal} (h : cellAt es i j = some c) : ∃ e, es[i]? = some e ∧ e.cells[j]? = some c := by
  unfold cellAt at h
  cases hi : es[i]? with
  | none => simp [hi] at h
  | some e => exact ⟨e, rfl, by simpa [hi] using h⟩

theorem lt_of_get? {α : Type} {l : List α} {i : Nat} {x : α} (h : l[i]? = some x) : i < l.length := by
  rcases Nat.lt_or_ge i l.length with h' | h'
  · exact h'
  · simp [List.getElem?_eq_none h'] at h

theorem idx_lt {i j n sz : Nat} (hi : i < n) (hj : j < sz) : i * sz + j < n * sz := by
  have : (i + 1) * sz ≤ n * sz := Nat.mul_le_mul_right sz hi
  have : (i + 1) * sz = i * sz + sz := by rw [Nat.add_mul, Nat.one_mul]
  omega

theorem own_cell {G : Ghost} {H : AHeap} {w : World} (hs : St G H w) {b sz : Nat} {es : List AVal} (hb : H b = some (.rows sz es)) {i j : Nat} {c : AVal} (hc : cellAt es i j = some c) :
    ∃ v, w.cell? ⟨b, i * sz + j, none⟩ = some v ∧ VRel G c v := by
  obtain ⟨ob, hob, hr⟩ := hs.own b _ hb
  cases hr with
  | rows sz es arr T lo hi hsz hn h hf hsh =>
    obtain ⟨e, he, hj⟩ := cellAt_inv hc
    have h1 := lt_of_get? he
    have h2 := lt_of_get? hj
    rw [hsz e (List.mem_of_getElem? he)] at h2
    have h3 := idx_lt h1 h2
    have h4 : i * sz + j < arr.size := by omega
    refine ⟨arr[i * sz + j], by rw [cell?_eq hob]; simp [h4], h i j c _ hc (by simp [h4])⟩

/-- The k-th cell behind a pointer. -/
def pcell (H : AHeap) : AVal → Nat → Option AVal
  | .ptr b sz row col, k => match H b with
    | some (.rows sz' es) => if sz = sz' then (es[row]?).bind fun e => e.cells[col + k]? else none
    | _ => none
  | .rp e col, k => e.cells[col + k]?
  | _, _ => none

theorem pcell_sound {G : Ghost} {H : AHeap} {w : World} (hs : St G H w) {p c : AVal} {k : Nat} {cv : Value} (hc : pcell H p k = some c) (hv : VRel G p cv) :
    ∃ b off, cv = .pointer (some ⟨b, off, none⟩) ∧ ∃ v, w.cell? ⟨b, off + k, none⟩ = some v ∧ VRel G c v := by
  cases p <;> simp only [pcell] at hc <;> try (cases hc)
  · rename_i b sz row col
    cases hv
    split at hc
    · rename_i sz' es hb
      split at hc
      · rename_i e
        subst e
        cases he : es[row]? with
        | none => simp [he] at hc
        | some e =>
          simp [he] at hc
          obtain ⟨v, h1, h2⟩ := own_cell hs hb (cellAt_some he hc)
          exact ⟨_, _, rfl, v, by rw [Nat.add_assoc]; exact h1, h2⟩
      · cases hc
    · cases hc
  · rename_i e col
    cases hv with
    | rp e col b off he h =>
      obtain ⟨v, hv⟩ := Option.isSome_iff_exists.1 (he _ _ hc)
      exact ⟨_, _, rfl, v, by rw [Nat.add_assoc]; exact fz_cell hs hv, h _ _ _ hc hv⟩

theorem subCells_some {e v : AVal} {sz col n : Nat} (hsz : e.cells.length = sz) (h : subCells e sz col (some n) = some v) :
    ∃ cs, v = .agg cs ∧ cs.length = n ∧ ∀ k, k < n → cs[k]? = e.cells[col + k]? ∧ (e.cells[col + k]?).isSome := by
  unfold subCells at h
  simp only at h
  split at h
  · rename_i hc
    obtain ⟨rfl, rfl⟩ := hc
    cases h
    refine ⟨e.cells, rfl, hsz, fun k hk => ⟨by rw [Nat.zero_add], ?_⟩⟩
    rw [Nat.zero_add]
    simp; omega
  · split at h
    · cases h
      refine ⟨_, rfl, by simp; omega, fun k hk => ?_⟩
      rw [List.getElem?_take, if_pos hk, List.getElem?_drop]
      exact ⟨rfl, by simp; omega⟩
    · cases h

theorem aLoad_pcell {G : Ghost} {H : AHeap} {w : World} (hs : St G H w) {p v : AVal} {ag : Option Nat} (h : aLoad H ag p = some v) :
    match ag with
    | none => pcell H p 0 = some v
    | some n => ∃ cs, v = .agg cs ∧ cs.length = n ∧ ∀ k, k < n → ∃ c, cs[k]? = some c ∧ pcell H p k = some c := by
  cases p <;> simp only [aLoad] at h <;> try (cases h)
  · rename_i b sz row col
    split at h
    · rename_i sz' es hb
      split at h
      · rename_i e
        subst e
        cases he : es[row]? with
        | none => simp [he] at h
        | some e =>
          simp [he] at h
          have hsz : e.cells.length = sz := by
            obtain ⟨ob, hob, hr⟩ := hs.own b _ hb
            cases hr with
            | rows _ _ arr T lo hi hsz hn h hf hsh => exact hsz e (List.mem_of_getElem? he)
          cases ag with
          | none => simpa [pcell, hb, he, subCells] using h
          | some n =>
            obtain ⟨cs, rfl, hl, hk⟩ := subCells_some hsz h
            refine ⟨cs, rfl, hl, fun k hk' => ?_⟩
            obtain ⟨h1, h2⟩ := hk k hk'
            obtain ⟨c, hc⟩ := Option.isSome_iff_exists.1 h2
            exact ⟨c, by rw [h1, hc], by simp [pcell, hb, he, hc]⟩
      · cases h
    · cases h
  · rename_i e col
    cases ag with
    | none => simpa [pcell, subCells] using h
    | some n =>
      obtain ⟨cs, rfl, hl, hk⟩ := subCells_some rfl h
      refine ⟨cs, rfl, hl, fun k hk' => ?_⟩
      obtain ⟨h1, h2⟩ := hk k hk'
      obtain ⟨c, hc⟩ := Option.isSome_iff_exists.1 h2
      exact ⟨c, by rw [h1, hc], by simp [pcell, hc]⟩

theorem run_load {P : Program} {w : World} {ad : Addr} {v : Value} (h : w.cell? ad = some v) : (load ad).run P w = .ok v w := by
  simp [load, Sem.run, h]

theorem run_loadCellsFrom {P : Program} {w : World} {b off : Nat} (f : Nat → Value) : ∀ (n i : Nat) (acc : Array Value), (∀ j, j < n → w.cell? ⟨b, off + (i + j), none⟩ = some (f (i + j))) →
    (loadCellsFrom ⟨b, off, none⟩ i n acc).run P w = .ok (acc ++ ((List.range' i n).map f).toArray) w
  | 0, i, acc, _ => by simp [loadCellsFrom, run_pure]
  | n + 1, i, acc, h => by
    unfold loadCellsFrom
    have h0 := h 0 (by omega)
    rw [run_ok (run_load (v := f i) (by rw [add_none]; simpa using h0))]
    rw [run_loadCellsFrom f n (i + 1) (acc.push (f i)) (fun j hj => by have := h (j + 1) (by omega); rw [show i + 1 + j = i + (j + 1) by omega]; exact this)]
    simp [List.range'_succ]

theorem run_loadCells {P : Program} {w : World} {b off : Nat} (f : Nat → Value) (n : Nat) (h : ∀ j, j < n → w.cell? ⟨b, off + j, none⟩ = some (f j)) :
    (loadCells ⟨b, off, none⟩ n).run P w = .ok ((List.range n).map f).toArray w := by
  unfold loadCells
  rw [run_loadCellsFrom f n 0 #[] (fun j hj => by simpa using h j hj)]
  simp [List.range_eq_range']

/-- Values for so many places, one each. -/
theorem choose_vals {n : Nat} {p : Nat → Value → Prop} (h : ∀ k, k < n → ∃ v, p k v) : ∃ f : Nat → Value, ∀ k, k < n → p k (f k) :=
  ⟨fun k => if hk : k < n then Classical.choose (h k hk) else undef, fun k hk => by simp only [hk, dif_pos]; exact Classical.choose_spec (h k hk)⟩

theorem load_sound {P : Program} {G : Ghost} {H : AHeap} {w : World} (hs : St G H w) {t : TypeId} {ag : Option Nat} (ht : tyAgg P t = some ag) {p v : AVal} {pv : Value}
    (hp : VRel G p pv) (hl : aLoad H ag p = some v) : ∃ cv, (Instr.loadAt t pv).run P w = .ok cv w ∧ VRel G v cv := by
  obtain ⟨hag, hsz⟩ := run_isAgg ht w
  have hpc := aLoad_pcell hs hl
  cases ag with
  | none =>
    obtain ⟨b, off, rfl, u, hu, hr⟩ := pcell_sound hs hpc hp
    refine ⟨u, ?_, hr⟩
    unfold Instr.loadAt Instr.sureAddr loadVar
    rw [run_ok (run_pure P _ w), run_ok hag]
    simp only [Option.isSome_none, if_false, Bool.false_eq_true]
    exact run_load (by simpa using hu)
  | some n =>
    obtain ⟨cs, rfl, hn, hk⟩ := hpc
    by_cases h0 : n = 0
    · subst h0
      cases cs with
      | cons a r => simp at hn
      | nil =>
        -- a pointer all the same
        have : ∃ b off, pv = .pointer (some ⟨b, off, none⟩) := by
          cases p <;> simp only [aLoad] at hl <;> try (cases hl)
          · cases hp; exact ⟨_, _, rfl⟩
          · cases hp; exact ⟨_, _, rfl⟩
        obtain ⟨b, off, rfl⟩ := this
        refine ⟨.agg #[], ?_, .agg _ _ rfl (fun i c v hc _ => by simp at hc)⟩
        unfold Instr.loadAt Instr.sureAddr loadVar
        rw [run_ok (run_pure P _ w), run_ok hag]
        simp only [Option.isSome_some, if_true]
        rw [run_ok (run_sizeOf (hsz 0 rfl) w)]
        rfl
    · obtain ⟨c0, hc0, hp0⟩ := hk 0 (by omega)
      obtain ⟨b, off, rfl, _, _, _⟩ := pcell_sound hs hp0 hp
      have : ∀ k, k < n → ∃ u, w.cell? ⟨b, off + k, none⟩ = some u ∧ ∀ c, cs[k]? = some c → VRel G c u := by
        intro k hk'
        obtain ⟨c, hc, hpk⟩ := hk k hk'
        obtain ⟨b', off', e, u, hu, hr⟩ := pcell_sound hs hpk hp
        cases e
        exact ⟨u, hu, fun c' hc' => by rw [hc] at hc'; cases hc'; exact hr⟩
      obtain ⟨f, hf⟩ := choose_vals this
      refine ⟨.agg ((List.range n).map f).toArray, ?_, .agg _ _ (by simp [hn]) (fun i c u hc hu => ?_)⟩
      · unfold Instr.loadAt Instr.sureAddr loadVar
        rw [run_ok (run_pure P _ w), run_ok hag]
        simp only [Option.isSome_some, if_true]
        rw [run_ok (run_sizeOf (hsz n rfl) w), run_ok (run_loadCells f n fun k hk => (hf k hk).1)]
        rfl
      · have hi := lt_of_get? hc
        rw [hn] at hi
        simp [hi] at hu
        subst hu
        exact (hf i hi).2 c hc

end Heron
end

section
set_option linter.unusedSimpArgs false
set_option linter.unusedVariables false
namespace Heron
open Go

theorem run_value {P : Program} {s : Sem Value} {w w' : World} {cv : Value} (h : s.run P w = .ok cv w') : (do let x ← s; pure (Next.value x) : Sem Next).run P w = .ok (.value cv) w' := by
  rw [run_ok h]; rfl

theorem run_asBool {P : Program} {w : World} (b : Bool) : (asBool (.bool b)).run P w = .ok b w := rfl
theorem run_asIntOf {P : Program} {w : World} (k : IntKind) (n : Int) : (asIntOf (.int k n)).run P w = .ok (k, n) w := rfl

theorem aInt_inv {G : Ghost} {a : AVal} {n : Int} {v : Value} (h : aInt a = some n) (hv : VRel G a v) : ∃ k, v = .int k n := by
  cases a <;> simp only [aInt] at h <;> try (cases h)
  rename_i u
  cases u <;> simp at h
  subst h
  exact ⟨_, VRel.raw_inv hv⟩

theorem run_binInt {P : Program} {w : World} {op : BinOp} {t : TypeId} {j : IntKind} {x y : Int} {v : AVal} (hn : isShift op = false) (h : ibin op j x y = some v) :
    ∃ cv, (binOp op t (.int j x) (.int j y)).run P w = .ok cv w ∧ v = .raw cv := by
  cases op <;> simp only [ibin] at h <;> simp [isShift] at hn <;> simp only [binOp, ne_eq, not_true_eq_false, if_false] <;> first
    | (cases h; exact ⟨_, rfl, rfl⟩)
    | (split at h
       · cases h
       · rename_i hy; cases h; refine ⟨_, ?_, rfl⟩; simp [Op.intDiv, hy, run_pure])

theorem run_shift {P : Program} {w : World} {op : BinOp} {t : TypeId} {j j' : IntKind} {x y : Int} {v : AVal} (hn : isShift op = true) (h : ishift op j x y = some v) :
    ∃ cv, (binOp op t (.int j x) (.int j' y)).run P w = .ok cv w ∧ v = .raw cv := by
  cases op <;> simp [isShift] at hn <;> simp only [ishift] at h <;> (
    split at h
    · cases h
    · rename_i hy; cases h; refine ⟨_, ?_, rfl⟩; simp [binOp, Op.shift, hy, run_pure])

theorem run_string {P : Program} {w : World} {op : BinOp} {k : EqK} {t : TypeId} {x y : ByteArray} {v : AVal} (h : abin op k (.raw (.string x)) (.raw (.string y)) = some v) :
    ∃ cv, (binOp op t (.string x) (.string y)).run P w = .ok cv w ∧ v = .raw cv := by
  cases op <;> simp only [abin] at h <;> try (cases h)
  · split at h
    · cases h
    · rename_i hn; cases h; refine ⟨_, ?_, rfl⟩; simp only [binOp, Op.stringOp, hn, if_false]; rfl
  · exact ⟨_, rfl, rfl⟩
  · exact ⟨_, rfl, rfl⟩

theorem run_guard {P : Program} {w : World} {op : BinOp} {t : TypeId} {x y : Operand} {a c : Value} (h1 : ∀ cs, a ≠ .agg cs) (h2 : a ≠ .nilIface) : (eqGuard op t x y a c).run P w = .ok () w := by
  unfold eqGuard
  cases a <;> first | (exfalso; exact h2 rfl) | (exfalso; exact h1 _ rfl) | (cases op <;> rfl)

theorem isNilP_sound {G : Ghost} {a : AVal} {p : Bool} {v : Value} (h : isNilP a = some p) (hv : VRel G a v) : ∃ x, v = .pointer x ∧ p = x.isNone := by
  cases a with
  | raw u => rw [VRel.raw_inv hv]; cases u <;> simp_all [isNilP]
  | ptr => simp [isNilP] at h; subst h; cases hv; exact ⟨_, rfl, rfl⟩
  | rp => simp [isNilP] at h; subst h; cases hv; exact ⟨_, rfl, rfl⟩
  | _ => simp [isNilP] at h

theorem isNilF_sound {G : Ghost} {a : AVal} {p : Bool} {v : Value} (h : isNilF a = some p) (hv : VRel G a v) : (p = true ∧ v = .nilFunc) ∨ (p = false ∧ ∃ f a b, v = .func f a b) := by
  cases a with
  | raw u => rw [VRel.raw_inv hv]; cases u <;> simp_all [isNilF]
  | fn => simp [isNilF] at h; subst h; cases hv; exact .inr ⟨rfl, _, _, _, rfl⟩
  | yd => simp [isNilF] at h; subst h; cases hv; exact .inr ⟨rfl, _, _, _, rfl⟩
  | _ => simp [isNilF] at h

theorem isNil_sound {G : Ghost} {a : AVal} {p : Bool} {v : Value} (h : isNil a = some p) (hv : VRel G a v) : ∃ x n c, v = .slice x n c ∧ p = x.isNone := by
  cases a with
  | raw u => rw [VRel.raw_inv hv]; cases u <;> simp_all [isNil]
  | ro sz es =>
    cases es with
    | nil => simp [isNil] at h
    | cons e r =>
      simp [isNil] at h
      cases hv with
      | ro _ _ a cap hl hsz ha he h' => obtain ⟨b, off, rfl⟩ := ha (by simp); exact ⟨_, _, _, rfl, by simp [h]⟩
  | sl => simp [isNil] at h; subst h; cases hv; exact ⟨_, _, _, rfl, rfl⟩
  | sc => simp [isNil] at h; subst h; cases hv; exact ⟨_, _, _, rfl, rfl⟩
  | _ => simp [isNil] at h

theorem run_equalP {P : Program} {w : World} {t e : TypeId} (hu : P.underlying t = some (.pointer e)) {x y : Option Addr} (h : (x.isNone || y.isNone) = true) :
    (Op.equal t (.pointer x) (.pointer y)).run P w = .ok (x.isNone && y.isNone) w := by
  unfold Op.equal
  rw [show Op.maxDepth = 9999 + 1 from rfl, Op.equalIn, run_ok (run_underlying hu w)]
  cases x <;> cases y <;> simp at h <;> rfl

theorem run_equalS {P : Program} {w : World} {t e : TypeId} (hu : P.underlying t = some (.slice e)) {x y : Option Addr} {n c m d : Nat} (h : (x.isNone || y.isNone) = true) :
    (Op.equal t (.slice x n c) (.slice y m d)).run P w = .ok (x.isNone && y.isNone) w := by
  unfold Op.equal
  rw [show Op.maxDepth = 9999 + 1 from rfl, Op.equalIn, run_ok (run_underlying hu w)]
  cases x <;> cases y <;> simp at h <;> rfl

theorem run_binEq {P : Program} {w : World} {t : TypeId} {x y : Value} {r : Bool} {op : BinOp} (hop : op = .eql ∨ op = .neq) (hi : ∀ k n, x ≠ .int k n) (hf : ∀ k n, x ≠ .float k n) (hc : ∀ k n m, x ≠ .complex k n m)
    (hs : ∀ s, x ≠ .string s) (h : (Op.equal t x y).run P w = .ok r w) : (binOp op t x y).run P w = .ok (.bool (if op = .eql then r else !r)) w := by
  rcases hop with rfl | rfl
  · cases x <;> first | (exact absurd rfl (hi _ _)) | (exact absurd rfl (hf _ _)) | (exact absurd rfl (hc _ _ _)) | (exact absurd rfl (hs _)) | (simp only [binOp]; rw [run_ok h]; rfl)
  · cases x <;> first | (exact absurd rfl (hi _ _)) | (exact absurd rfl (hf _ _)) | (exact absurd rfl (hc _ _ _)) | (exact absurd rfl (hs _)) | (simp only [binOp]; rw [run_ok h]; rfl)

end Heron
end

section
set_option linter.unusedSimpArgs false
set_option linter.unusedVariables false
namespace Heron
open Go

theorem i64s_some : ∀ {cs : List AVal} {l : List Int}, i64s cs = some l → cs = l.map .i
  | [], l, h => by cases h; rfl
  | c :: r, l, h => by
    cases c with
    | raw v =>
      cases v with
      | int k n =>
        cases k <;> simp [i64s] at h
        obtain ⟨m, hm, rfl⟩ := h
        rw [i64s_some hm]; rfl
      | _ => simp [i64s] at h
    | _ => simp [i64s] at h

theorem vrel_ints {G : Ghost} {l : List Int} {v : Value} (hv : VRel G (.agg (l.map .i)) v) : v = .agg (l.map (Value.int .i64)).toArray := by
  cases hv with
  | agg cs vs hn h =>
    congr 1
    apply Array.ext
    · simp [hn]
    · intro i h1 h2
      simp at h2
      have := h i (.i l[i]) vs[i] (by simp [h2]) (by simp [h1])
      rw [VRel.raw_inv this]
      simp

theorem intStruct_spec {P : Program} {fields : Array Field} (h : intStruct P fields = true) {i : Nat} {f : Field} (hf : fields.toList[i]? = some f) :
    f.offset = i ∧ (f.name ≠ "_") ∧ P.underlying f.type = some (.int .i64) ∧ tySize P f.type = some 1 := by
  unfold intStruct at h
  rw [List.all_eq_true] at h
  have := h (f, i) (by rw [List.mem_zipIdx_iff_getElem?]; exact hf)
  simp only [Bool.and_eq_true, beq_iff_eq, bne_iff_ne, ne_eq] at this
  obtain ⟨⟨⟨h1, h2⟩, h3⟩, h4⟩ := this
  refine ⟨h1, h2, ?_, h4⟩
  cases hu : P.underlying f.type with
  | none => simp [hu] at h3
  | some d =>
    cases d <;> simp [hu] at h3
    rename_i k
    cases k <;> simp at h3 ⊢

theorem run_part_int {P : Program} {w : World} {t : TypeId} {k : IntKind} (hu : P.underlying t = some (.int k)) {cs : Array Value} {off : Nat} {v : Value} (h : cs[off]? = some v) : (part t cs off).run P w = .ok v w := by
  unfold part isAgg
  rw [run_bind, run_ok (run_underlying hu w)]
  simp only [run_pure, Bool.false_eq_true, if_false, h]

theorem run_equalIn_int {P : Program} {w : World} {t : TypeId} {k : IntKind} (hu : P.underlying t = some (.int k)) (d : Nat) (x y : Int) : (Op.equalIn (d + 1) t (.int .i64 x) (.int .i64 y)).run P w = .ok (x == y) w := by
  rw [Op.equalIn, run_ok (run_underlying hu w)]
  simp [run_pure]

theorem run_eqFields {P : Program} {w : World} {d : Nat} {l m : List Int} : ∀ (fs : List Field) (k : Nat), k + fs.length = l.length → m.length = l.length →
    (∀ i f, fs[i]? = some f → f.offset = k + i ∧ (f.name ≠ "_") ∧ P.underlying f.type = some (.int .i64)) →
    (Op.eqFields (d + 1) (l.map (Value.int .i64)).toArray (m.map (Value.int .i64)).toArray fs).run P w = .ok (l.drop k == m.drop k) w
  | [], k, hk, hm, _ => by
    simp at hk
    simp only [Op.eqFields, run_pure]
    rw [List.drop_eq_nil_of_le (by omega), List.drop_eq_nil_of_le (by omega)]
    rfl
  | f :: fs, k, hk, hm, h => by
    obtain ⟨h1, h2, h3⟩ := h 0 f rfl
    simp only [List.length_cons] at hk
    have hl : k < l.length := by omega
    have hl' : k < m.length := by omega
    rw [Nat.add_zero] at h1
    have ih := run_eqFields (P := P) (w := w) (d := d) (l := l) (m := m) fs (k + 1) (by omega) hm (fun i f hf => by have := h (i + 1) f hf; rw [show k + 1 + i = k + (i + 1) by omega]; exact this)
    simp only [Op.eqFields, if_pos h2]
    rw [run_ok (run_part_int (v := .int .i64 l[k]) h3 (by rw [h1]; simp [hl])), run_ok (run_part_int (v := .int .i64 m[k]) h3 (by rw [h1]; simp [hl'])), run_ok (run_equalIn_int h3 d _ _)]
    rw [List.drop_eq_getElem_cons hl, List.drop_eq_getElem_cons hl', List.cons_beq_cons]
    cases he : (l[k] == m[k])
    · simp only [Bool.not_false, if_true, Bool.false_and, run_pure]
    · simp only [Bool.not_true, Bool.false_eq_true, if_false, Bool.true_and]
      exact ih

theorem eqKind_ints {P : Program} {t : TypeId} {n : Nat} (h : eqKind P t = .ints n) :
    ∃ fields : Array Field, P.underlying t = some (.struct fields) ∧ fields.size = n ∧ intStruct P fields = true ∧ P.stoodInHeld t = false ∧ P.eqGuardType P.depth t = false := by
  unfold eqKind at h
  cases hu : P.underlying t with
  | none => simp [hu] at h
  | some d =>
    cases d <;> simp only [hu] at h <;> try (cases h)
    rename_i fields
    split at h
    · rename_i hc
      simp only [Bool.and_eq_true, Bool.not_eq_true'] at hc
      cases h
      exact ⟨fields, rfl, rfl, hc.1.1.1.1, hc.1.1.1.2, hc.1.1.2⟩
    · cases h

theorem run_equal_ints {P : Program} {w : World} {t : TypeId} {n : Nat} (h : eqKind P t = .ints n) {l m : List Int} (hl : l.length = n) (hm : m.length = n) :
    (Op.equal t (.agg (l.map (Value.int .i64)).toArray) (.agg (m.map (Value.int .i64)).toArray)).run P w = .ok (l == m) w := by
  obtain ⟨fields, hu, hn, hi, hs, _⟩ := eqKind_ints h
  unfold Op.equal
  rw [show Op.maxDepth = 9998 + 1 + 1 from rfl]
  have hf : P.fieldsOf t = fields := by simp [Program.fieldsOf, hu]
  rw [run_equalIn_struct (P := P) w _ t _ _ (by rw [hf]; exact hu) hs, hf]
  rw [run_eqFields fields.toList 0 (by simp [hn, hl]) (by omega) (fun i f hf => by obtain ⟨a, b, c, _⟩ := intStruct_spec hi hf; exact ⟨by omega, b, c⟩)]
  simp

theorem eqKind_ptr {P : Program} {t : TypeId} (h : eqKind P t = .ptrnil) : ∃ e, P.underlying t = some (.pointer e) := by
  unfold eqKind at h
  cases hu : P.underlying t with
  | none => simp [hu] at h
  | some d =>
    cases d <;> simp [hu] at h
    · exact ⟨_, rfl⟩
    · split at h <;> cases h

theorem eqKind_func {P : Program} {t : TypeId} (h : eqKind P t = .func) : ∃ a b c, P.underlying t = some (.func a b c) := by
  unfold eqKind at h
  cases hu : P.underlying t with
  | none => simp [hu] at h
  | some d =>
    cases d <;> simp [hu] at h
    · split at h <;> cases h
    · exact ⟨_, _, _, rfl⟩

theorem eqKind_bool {P : Program} {t : TypeId} (h : eqKind P t = .bool) : P.underlying t = some .bool := by
  unfold eqKind at h
  cases hu : P.underlying t with
  | none => simp [hu] at h
  | some d =>
    cases d <;> simp [hu] at h
    · rfl
    · split at h <;> cases h

theorem eqKind_slice {P : Program} {t : TypeId} (h : eqKind P t = .slice) : ∃ e, P.underlying t = some (.slice e) := by
  unfold eqKind at h
  cases hu : P.underlying t with
  | none => simp [hu] at h
  | some d =>
    cases d <;> simp [hu] at h
    · exact ⟨_, rfl⟩
    · split at h <;> cases h

theorem run_equal_bool {P : Program} {w : World} {t : TypeId} (hu : P.underlying t = some .bool) (x y : Bool) : (Op.equal t (.bool x) (.bool y)).run P w = .ok (x == y) w := by
  unfold Op.equal
  rw [show Op.maxDepth = 9999 + 1 from rfl, Op.equalIn, run_ok (run_underlying hu w)]
  rfl

theorem run_equalF {P : Program} {w : World} {t : TypeId} {a b : Array TypeId} {c : Bool} (hu : P.underlying t = some (.func a b c)) {x y : Value} {p q : Bool}
    (hx : (p = true ∧ x = .nilFunc) ∨ (p = false ∧ ∃ f a b, x = .func f a b)) (hy : (q = true ∧ y = .nilFunc) ∨ (q = false ∧ ∃ f a b, y = .func f a b)) (h : (p || q) = true) :
    (Op.equal t x y).run P w = .ok (p && q) w := by
  unfold Op.equal
  rw [show Op.maxDepth = 9999 + 1 from rfl, Op.equalIn, run_ok (run_underlying hu w)]
  rcases hx with ⟨rfl, rfl⟩ | ⟨rfl, _, _, _, rfl⟩ <;> rcases hy with ⟨rfl, rfl⟩ | ⟨rfl, _, _, _, rfl⟩ <;> simp at h <;> rfl

theorem run_guard_agg {P : Program} {w : World} {op : BinOp} {t : TypeId} {x y : Operand} {a c : Value} (h : P.eqGuardType P.depth t = false) (h2 : a ≠ .nilIface) : (eqGuard op t x y a c).run P w = .ok () w := by
  unfold eqGuard
  have key : ∀ as cs : Array Value, ((do
        let p ← program
        let q ← program
        if (!p.eqGuardType q.depth t) = true then pure ()
          else do
            if (← Op.eqGuardIn Op.maxDepth t a c) = true then
                unsupported (.noEntry "binop/eql: two nil values of an interface type with methods, in a part of a struct or an array") : Sem Unit).run P w) = .ok () w := by
    intro as cs
    rw [run_ok (a := P) (w' := w) rfl, run_ok (a := P) (w' := w) rfl]
    simp [h, run_pure]
  cases a <;> first | (exfalso; exact h2 rfl) | (cases op <;> rfl) | skip
  rename_i as
  cases c <;> first | (cases op <;> rfl) | skip
  rename_i cs
  cases op <;> first | rfl | exact key as cs

/-- An operator on two values that are known so far. -/
theorem bin_sound {P : Program} {G : Ghost} {w : World} {op : BinOp} {t : TypeId} {x y : Operand} {a c v : AVal} {av cv : Value} (ha : VRel G a av) (hc : VRel G c cv)
    (h : abin op (eqKind P t) a c = some v) : ∃ rv, (do eqGuard op t x y av cv; binOp op t av cv : Sem Value).run P w = .ok rv w ∧ VRel G v rv := by
  unfold abin at h
  split at h
  · rename_i j x1 j' y1
    rw [VRel.raw_inv ha, VRel.raw_inv hc]
    rw [run_ok (run_guard (by simp) (by simp))]
    split at h
    · rename_i hsh
      obtain ⟨rv, h1, rfl⟩ := run_shift (P := P) (w := w) (t := t) (j' := j') hsh h
      exact ⟨rv, h1, .raw _⟩
    · rename_i hsh
      split at h
      · rename_i hj
        subst hj
        obtain ⟨rv, h1, rfl⟩ := run_binInt (P := P) (w := w) (t := t) (by simpa using hsh) h
        exact ⟨rv, h1, .raw _⟩
      · cases h
  · rename_i x1 y1
    rw [VRel.raw_inv ha, VRel.raw_inv hc]
    rw [run_ok (run_guard (by simp) (by simp))]
    split at h
    · rename_i hk
      cases h
      exact ⟨_, run_binEq (.inl rfl) (by simp) (by simp) (by simp) (by simp) (run_equal_bool (eqKind_bool hk) _ _), by simp; exact .raw _⟩
    · rename_i hk
      cases h
      refine ⟨_, run_binEq (.inr rfl) (by simp) (by simp) (by simp) (by simp) (run_equal_bool (eqKind_bool hk) _ _), ?_⟩
      simp
      rw [show (x1 != y1) = !(x1 == y1) from rfl]
      exact .raw _
    · cases h
  · rename_i x1 y1
    rw [VRel.raw_inv ha, VRel.raw_inv hc]
    rw [run_ok (run_guard (by simp) (by simp))]
    obtain ⟨rv, h1, rfl⟩ := run_string (P := P) (w := w) (op := op) (k := eqKind P t) (t := t) (x := x1) (y := y1) (v := v) (by unfold abin; exact h)
    exact ⟨rv, h1, .raw _⟩
  · split at h
    · rename_i n hk
      split at h
      · rename_i cs ds _ _
        unfold intsEq at h
        split at h
        · rename_i l m hl hm
          split at h
          · rename_i hlm
            rw [i64s_some hl] at ha
            rw [i64s_some hm] at hc
            rw [vrel_ints ha, vrel_ints hc]
            obtain ⟨_, _, _, _, _, hgt⟩ := eqKind_ints hk
            rw [run_ok (run_guard_agg hgt (by simp))]
            have he := run_equal_ints (w := w) hk hlm.1 hlm.2
            split at h
            · cases h; exact ⟨_, run_binEq (.inl rfl) (by simp) (by simp) (by simp) (by simp) he, by simp only [if_true]; exact .raw _⟩
            · cases h; exact ⟨_, run_binEq (.inr rfl) (by simp) (by simp) (by simp) (by simp) he, by simp only [reduceCtorEq, if_false]; exact .raw _⟩
            · cases h
          · cases h
        · cases h
      · cases h
    · rename_i hk
      obtain ⟨e, hu⟩ := eqKind_ptr hk
      unfold nilEq at h
      split at h
      · rename_i p q hp hq
        obtain ⟨xa, rfl, rfl⟩ := isNilP_sound hp ha
        obtain ⟨xc, rfl, rfl⟩ := isNilP_sound hq hc
        rw [run_ok (run_guard (by simp) (by simp))]
        split at h
        · rename_i hpq
          split at h
          · cases h; exact ⟨_, run_binEq (.inl rfl) (by simp) (by simp) (by simp) (by simp) (run_equalP hu hpq), by simp only [if_true]; exact .raw _⟩
          · cases h; exact ⟨_, run_binEq (.inr rfl) (by simp) (by simp) (by simp) (by simp) (run_equalP hu hpq), by simp only [reduceCtorEq, if_false]; exact .raw _⟩
          · cases h
        · cases h
      · cases h
    · rename_i hk
      obtain ⟨a1, b1, c1, hu⟩ := eqKind_func hk
      unfold nilEq at h
      split at h
      · rename_i p q hp hq
        have h1 := isNilF_sound hp ha
        have h2 := isNilF_sound hq hc
        have n1 : ∀ cs, av ≠ .agg cs := by rcases h1 with ⟨_, rfl⟩ | ⟨_, _, _, _, rfl⟩ <;> simp
        have n2 : av ≠ .nilIface := by rcases h1 with ⟨_, rfl⟩ | ⟨_, _, _, _, rfl⟩ <;> simp
        have n3 : ∀ k n, av ≠ .int k n := by rcases h1 with ⟨_, rfl⟩ | ⟨_, _, _, _, rfl⟩ <;> simp
        have n4 : ∀ k n, av ≠ .float k n := by rcases h1 with ⟨_, rfl⟩ | ⟨_, _, _, _, rfl⟩ <;> simp
        have n5 : ∀ k n m, av ≠ .complex k n m := by rcases h1 with ⟨_, rfl⟩ | ⟨_, _, _, _, rfl⟩ <;> simp
        have n6 : ∀ s, av ≠ .string s := by rcases h1 with ⟨_, rfl⟩ | ⟨_, _, _, _, rfl⟩ <;> simp
        rw [run_ok (run_guard n1 n2)]
        split at h
        · rename_i hpq
          split at h
          · cases h; exact ⟨_, run_binEq (.inl rfl) n3 n4 n5 n6 (run_equalF hu h1 h2 hpq), by simp only [if_true]; exact .raw _⟩
          · cases h; exact ⟨_, run_binEq (.inr rfl) n3 n4 n5 n6 (run_equalF hu h1 h2 hpq), by simp only [reduceCtorEq, if_false]; exact .raw _⟩
          · cases h
        · cases h
      · cases h
    · cases h

end Heron
end
