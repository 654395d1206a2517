/- Contracts: the book of a history. Contracts: the book of a history. Contracts: who is fixed. -/
import Derived.Test.YtaeanhonfoakeaaM2
section
namespace Go.Proofs.Ytaeanhonfoakeaa
open Go Heron
set_option linter.unusedSimpArgs false
set_option linter.unusedVariables false

/-! maps whose keys are two numbers -/
def key2 (r t : Int) : Value := .agg ([r, t].map (Value.int .i64)).toArray
theorem ints?_inv : ∀ {l : List Value} {m : List Int}, ints? l = some m → l = m.map (Value.int .i64)
  | [], m, h => by simp [ints?] at h; subst h; rfl
  | .int .i64 n :: r, m, h => by
    simp only [ints?, Option.map_eq_some_iff] at h
    obtain ⟨m', h1, rfl⟩ := h
    rw [ints?_inv h1]; rfl
theorem keyEq_key2 {r t : Int} {v : Value} : keyEq (key2 r t) v = true ↔ v = key2 r t := by
  unfold key2
  constructor
  · intro h
    cases v <;> simp only [keyEq, ints?_map, Bool.false_eq_true] at h
    rename_i c
    cases hc : ints? c.toList with
    | none => simp [hc] at h
    | some m =>
      simp only [hc] at h
      have h2 := ints?_inv hc
      have h3 : [r, t] = m := by simpa using h
      subst h3
      rw [← h2]
  · rintro rfl
    rw [keyEq_ints]; simp
theorem keyOf_key2 {r t : Int} : Heron.keyOf (.ints 2) (.agg [.i r, .i t]) = some (key2 r t) := rfl
theorem key2_inj {r t r' t' : Int} : key2 r t = key2 r' t' ↔ r = r' ∧ t = t' := by
  simp [key2]
theorem mFind_mSet {r t r' t' : Int} {v : AVal} : ∀ {es : List AEnt}, mFind (key2 r' t') (mSet (key2 r t) v es) = if r' = r ∧ t' = t then (if mHas (key2 r t) es then some v else none) else mFind (key2 r' t') es
  | [] => by simp [mSet, mFind, mHas]
  | e :: es => by
    have ih := mFind_mSet (r := r) (t := t) (r' := r') (t' := t') (v := v) (es := es)
    unfold mSet
    by_cases he : keyEq (key2 r t) e.key = true
    · have e1 := keyEq_key2.1 he
      simp only [he, if_true, mFind, mHas, List.any_cons, Bool.true_or]
      by_cases h : r' = r ∧ t' = t
      · obtain ⟨rfl, rfl⟩ := h
        simp [he]
      · have : ¬ keyEq (key2 r' t') e.key = true := fun e2 => h (by
          have := keyEq_key2.1 e2
          rw [e1, key2_inj] at this
          exact ⟨this.1.symm, this.2.symm⟩)
        simp [h, this]
    · simp only [he, mFind, mHas, List.any_cons, Bool.false_or, Bool.false_eq_true, if_false] at ih ⊢
      rw [ih]
      by_cases h : r' = r ∧ t' = t
      · obtain ⟨rfl, rfl⟩ := h
        simp [he]
      · simp [h]
theorem mFind_app {k : Value} : ∀ {es : List AEnt} {e : AEnt}, mFind k (es ++ [e]) = (mFind k es).or (if keyEq k e.key then some e.val else none)
  | [], e => by simp [mFind]
  | e1 :: es, e => by
    simp only [List.cons_append, mFind]
    split
    · simp
    · exact mFind_app
theorem mFind_has {k : Value} : ∀ {es : List AEnt}, mHas k es = (mFind k es).isSome
  | [] => rfl
  | e :: es => by
    have := mFind_has (k := k) (es := es)
    simp only [mHas, List.any_cons, mFind] at this ⊢
    split <;> simp_all

/-- What became of a transaction. -/
structure Fate where
  begun : Bool
  done : Bool
  in_ : Int
  at_ : Int
  gone : Bool
  deriving DecidableEq
def Fate.none : Fate := ⟨false, false, 0, 0, false⟩
def fateA (f : Fate) : AVal := .agg [.b f.begun, .b f.done, .i f.in_, .i f.at_, .b f.gone]
abbrev Fates := Int → Int → Fate
def upd (F : Fates) (r t : Int) (f : Fate) : Fates := fun r' t' => if r' = r ∧ t' = t then f else F r' t'
def MapIs (es : List AEnt) (F : Fates) : Prop := ∀ r t, (mFind (key2 r t) es).getD (fateA Fate.none) = fateA (F r t)
theorem mapIs_nil : MapIs [] (fun _ _ => Fate.none) := fun r t => rfl
theorem mapIs_put {es : List AEnt} {F : Fates} (h : MapIs es F) (r t : Int) (f : Fate) (clock : Nat) : ∃ es' clock', mPut (.ints 2) (key2 r t) (fateA f) es clock = .map (.ints 2) es' clock' ∧ MapIs es' (upd F r t f) := by
  unfold mPut
  split
  · rename_i hh
    refine ⟨_, _, rfl, fun r' t' => ?_⟩
    rw [mFind_mSet, upd]
    split
    · simp [hh]
    · exact h r' t'
  · rename_i hh
    refine ⟨_, _, rfl, fun r' t' => ?_⟩
    rw [mFind_app, upd]
    have hn : mFind (key2 r t) es = Option.none := by
      rw [mFind_has] at hh; simpa using hh
    by_cases e : r' = r ∧ t' = t
    · obtain ⟨rfl, rfl⟩ := e
      have : keyEq (key2 r' t') (key2 r' t') = true := keyEq_key2.2 rfl
      simp [hn, this]
    · have : ¬ keyEq (key2 r' t') (key2 r t) = true := fun e2 => e (by
        have := keyEq_key2.1 e2
        rw [key2_inj] at this
        exact ⟨this.1.symm, this.2.symm⟩)
      rw [if_neg e, if_neg this, Option.or_none]
      exact h r' t'

section
variable {H : AHeap} {K : AVal → AHeap → Prop}
/-- An object's entries. -/
def entsO (kk : KK) : Option AObj → Option (List AEnt)
  | some (.map kk' es _) => if kk = kk' then some es else none
  | _ => none
@[go_sem] theorem lkV_mp {kk : KK} {zero k : AVal} {m : Nat} : lkV H kk zero (some (.mp m)) (some k) false = (Heron.keyOf kk k).bind fun k => (entsO kk (H m)).map fun es => (mFind k es).getD zero := by
  rcases h : Heron.keyOf kk k with _ | k'
  · simp [lkV, h]
  · rcases ho : H m with _ | o
    · simp [lkV, h, aEnts, entsO, ho]
    · cases o <;> simp [lkV, h, aEnts, entsO, ho]
@[go_sem] theorem entsO_some {kk : KK} {es : List AEnt} {c : Nat} : entsO kk (some (.map kk es c)) = some es := by simp [entsO]
def mupO (kk : KK) (k : Option Value) (v : AVal) : Option AObj → Option AObj
  | some (.map kk' es clock) => k.bind fun k => if kk = kk' then some (mPut kk k v es clock) else none
  | _ => none
@[go_sem] theorem mupH_mp {kk : KK} {m : Nat} {k v : AVal} : mupH H kk (.mp m) k v = (mupO kk (Heron.keyOf kk k) v (H m)).map fun o => H.set m o := by
  rcases h : Heron.keyOf kk k with _ | k'
  · rcases ho : H m with _ | o
    · simp [mupH, h, mupO, ho]
    · cases o <;> simp [mupH, h, mupO, ho]
  · rcases ho : H m with _ | o
    · simp [mupH, h, mupO, ho]
    · cases o <;> simp [mupH, h, mupO, ho]
@[go_sem] theorem mupO_some {kk : KK} {k : Value} {v : AVal} {es : List AEnt} {c : Nat} : mupO kk (some k) v (some (.map kk es c)) = some (mPut kk k v es c) := by simp [mupO]
end
end Go.Proofs.Ytaeanhonfoakeaa
end

section
namespace Go.Proofs.Ytaeanhonfoakeaa
open Go Heron
set_option linter.unusedSimpArgs false
set_option linter.unusedVariables false

def goneStep (r : Int) (F : Fates) (id : Int) : Fates := upd F r id { F r id with gone := true }
def fate1 (f : Fate) (k : Nat) (x : Ev) : Fate :=
  if x.what = 1 ∧ f.begun = false then { f with begun := true, in_ := x.at_ } else if x.what = 2 ∧ f.done = false then { f with done := true, at_ := k } else f
def evStep (F : Fates) (k : Nat) (x : Ev) : Fates := x.gone.foldl (goneStep x.round) (upd F x.round x.tx (fate1 (F x.round x.tx) k x))
def fatesTo (h : List Ev) : Nat → Fates
  | 0 => fun _ _ => Fate.none
  | k + 1 => match h[k]? with
    | some x => evStep (fatesTo h k) k x
    | none => fatesTo h k
/-- What became of all transactions. -/
def fates (h : List Ev) : Fates := fatesTo h h.length

/-- A book stands in a heap. -/
def BookF (H : AHeap) (B : Nat) (h : List Ev) (F : Fates) : Prop := ∃ m es clock, H B = some (.rows 2 [.agg [evsA h, .mp m]]) ∧ H m = some (.map (.ints 2) es clock) ∧ MapIs es F
def Book (H : AHeap) (B : Nat) (h : List Ev) : Prop := BookF H B h (fates h)
theorem BookF.mono {H H' : AHeap} {B : Nat} {h : List Ev} {F : Fates} (hb : BookF H B h F) (hl : H.le H') : BookF H' B h F := by
  obtain ⟨m, es, c, h1, h2, h3⟩ := hb
  exact ⟨m, es, c, hl _ _ h1, hl _ _ h2, h3⟩

theorem ne_new {H : AHeap} {b c : Nat} {o : AObj} (h1 : H b = some o) (h2 : H c = none) : b ≠ c := fun e => by rw [e, h2] at h1; cases h1
theorem take_foldl {α β : Type} {l : List α} {k : Nat} {x : α} (hx : l[k]? = some x) (g : β → α → β) (z : β) : (l.take (k + 1)).foldl g z = g ((l.take k).foldl g z) x := by
  rw [List.take_add_one, hx]; simp

set_option maxHeartbeats 1000000 in
theorem f27_L0 {h : List Ev} {x : Ev} {k B m bx : Nat} {H0 H : AHeap} {es : List AEnt} {clock : Nat} {F : Fates} (hle : H0.le H) (nB : H0 B = none) (nm : H0 m = none) (hx : H bx = some (.rows 7 [evA x])) (h1 : H B = some (.rows 2 [.agg [evsA h, .mp m]])) (h2 : H m = some (.map (.ints 2) es clock)) (h3 : MapIs es F)
    (hg : x.gone.length ≤ 2 ^ 20) {Q : AQ}
    (hk : ∀ H' es' clock', H0.le H' → H' B = some (.rows 2 [.agg [evsA h, .mp m]]) → H' m = some (.map (.ints 2) es' clock') → MapIs es' (x.gone.foldl (goneStep x.round) F) →
      Q (.exit 3) (ofL [(3, .ptr B 2 0 0), (5, .ptr bx 7 0 0), (16, .ro 7 (h.map evA)), (17, .i h.length), (18, .i k), (66, intsA x.gone), (67, .i x.gone.length), (68, .i x.gone.length), (69, .b false)]) H') :
    loopC Try.prog a27_L0 Q (ofL [(3, .ptr B 2 0 0), (5, .ptr bx 7 0 0), (16, .ro 7 (h.map evA)), (17, .i h.length), (18, .i k), (66, intsA x.gone), (67, .i x.gone.length), (68, .i 0)]) H := by
  refine loop_upto (k := 0) x.gone.length (fun j R H1 => H0.le H1 ∧ H1 bx = some (.rows 7 [evA x]) ∧ (∃ es clock, H1 B = some (.rows 2 [.agg [evsA h, .mp m]]) ∧ H1 m = some (.map (.ints 2) es clock) ∧ MapIs es ((x.gone.take j).foldl (goneStep x.round) F)) ∧
    R = ofL [(3, .ptr B 2 0 0), (5, .ptr bx 7 0 0), (16, .ro 7 (h.map evA)), (17, .i h.length), (18, .i k), (66, intsA x.gone), (67, .i x.gone.length), (68, .i j)]) ?_ (Nat.zero_le _) ⟨hle, hx, ⟨es, clock, h1, h2, h3⟩, rfl⟩
  clear hle hx h1 h2 h3 es clock
  rintro j R H1 X hj ⟨hle, hbx, ⟨es, clock, h1, h2, h3⟩, rfl⟩ ih
  unfold a27_L0
  simp only [go_sem, reduceIte, Nat.reduceEqDiff, Nat.reduceAdd, Nat.reduceLT, Nat.reduceLeDiff, Nat.reduceSub, Nat.reduceMul, Nat.reducePow, Int.reduceToNat, Int.reduceLT, Int.reduceLE, Int.reduceEq, Int.reduceNeg, decide_true, decide_false, Bool.not_true, Bool.not_false]
  by_cases hlt : j < x.gone.length
  · obtain ⟨y, hy⟩ : ∃ y, x.gone[j]? = some y := ⟨_, List.getElem?_eq_getElem hlt⟩
    simp only [go_sem, reduceIte, Nat.reduceEqDiff, Nat.reduceAdd, Nat.reduceLT, Nat.reduceLeDiff, Nat.reduceSub, Nat.reduceMul, Nat.reducePow, Int.reduceToNat, Int.reduceLT, Int.reduceLE, Int.reduceEq, Int.reduceNeg, decide_true, decide_false, Bool.not_true, Bool.not_false, hlt, hy, hbx, evA]
    refine allocK_i fun bk hbk => ?_
    try simp only [set_none] at hbk
    have n1 : B ≠ bk := ne_new h1 hbk
    have n2 : m ≠ bk := ne_new h2 hbk
    simp only [go_sem, reduceIte, Nat.reduceEqDiff, Nat.reduceAdd, Nat.reduceLT, Nat.reduceLeDiff, Nat.reduceSub, Nat.reduceMul, Nat.reducePow, Int.reduceToNat, Int.reduceLT, Int.reduceLE, Int.reduceEq, Int.reduceNeg, decide_true, decide_false, Bool.not_true, Bool.not_false, hbk, n1, n2, h1, h2, keyOf_key2]
    refine allocK_i fun bf hbf => ?_
    try simp only [set_none] at hbf
    have n3 : B ≠ bf := ne_new h1 hbf.2.2.2.2
    have n4 : m ≠ bf := ne_new h2 hbf.2.2.2.2
    have n5 : B ≠ m := fun e => by rw [e, h2] at h1; cases h1
    have n6 : bx ≠ bk := ne_new hbx hbk
    have n7 : bx ≠ bf := ne_new hbx hbf.2.2.2.2
    have n8 : bx ≠ m := fun e => by rw [e, h2] at hbx; cases hbx
    have h4 := h3 x.round y
    simp only [fateA, Fate.none] at h4
    simp only [go_sem, reduceIte, Nat.reduceEqDiff, Nat.reduceAdd, Nat.reduceLT, Nat.reduceLeDiff, Nat.reduceSub, Nat.reduceMul, Nat.reducePow, Int.reduceToNat, Int.reduceLT, Int.reduceLE, Int.reduceEq, Int.reduceNeg, decide_true, decide_false, Bool.not_true, Bool.not_false, hbk, hbf, n1, n2, n3, n4, h1, h2, keyOf_key2, h4]
    obtain ⟨es', clock', e1, e2⟩ := mapIs_put h3 x.round y { (List.foldl (goneStep x.round) F (List.take j x.gone)) x.round y with gone := true } clock
    simp only [fateA] at e1
    rw [e1]
    refine ih _ _ hlt ⟨?_, ?_, ⟨es', clock', ?_, ?_, ?_⟩, by rw [wrap_up (by omega)]⟩
    · exact (by (repeat (first | (refine AHeap.le_set' ?_ (by first | (simp only [*]; done) | (refine AHeap.le_none (by assumption) ?_; simp only [*]))) | (refine AHeap.le_del ?_ (by first | (simp only [*]; done) | (refine AHeap.le_none (by assumption) ?_; simp only [*]))))); first | exact AHeap.le_refl _ | assumption)
    · simp [set_get, n6, n7, n8, hbx, evA]
    · simp [set_get, n1, n3, n5, h1]
    · simp [set_get]
    · rw [take_foldl hy]; exact e2
  · simp only [go_sem, reduceIte, Nat.reduceEqDiff, Nat.reduceAdd, Nat.reduceLT, Nat.reduceLeDiff, Nat.reduceSub, Nat.reduceMul, Nat.reducePow, Int.reduceToNat, Int.reduceLT, Int.reduceLE, Int.reduceEq, Int.reduceNeg, decide_true, decide_false, Bool.not_true, Bool.not_false, hlt]
    have : j = x.gone.length := by omega
    subst this
    rw [List.take_length] at h3
    exact hk _ _ _ hle h1 h2 h3

set_option maxHeartbeats 1000000 in
theorem f27_c (h : List Ev) (hl : h.length ≤ 2 ^ 20) (hg : ∀ x ∈ h, x.gone.length ≤ 2 ^ 20) {H : AHeap} {K : AVal → AHeap → Prop} (hk : ∀ B H1, H.le H1 → Book H1 B h → K (.ptr B 2 0 0) H1) : callP Try.prog 27 [evsA h] H K := by
  refine callP_body mixed Try.func27 a27_ok (by simp [a27]) ?_; simp only [a27, go_sem, reduceIte, Nat.reduceEqDiff, Nat.reduceAdd, Nat.reduceLT, Nat.reduceLeDiff, Nat.reduceSub, Nat.reduceMul, Nat.reducePow, Int.reduceToNat, Int.reduceLT, Int.reduceLE, Int.reduceEq, Int.reduceNeg, decide_true, decide_false, Bool.not_true, Bool.not_false]
  simp only [go_sem, reduceIte, Nat.reduceEqDiff, Nat.reduceAdd, Nat.reduceLT, Nat.reduceLeDiff, Nat.reduceSub, Nat.reduceMul, Nat.reducePow, Int.reduceToNat, Int.reduceLT, Int.reduceLE, Int.reduceEq, Int.reduceNeg, decide_true, decide_false, Bool.not_true, Bool.not_false, evsA]
  refine allocK_i fun m hm => ?_
  try simp only [set_none] at hm
  simp only [go_sem, reduceIte, Nat.reduceEqDiff, Nat.reduceAdd, Nat.reduceLT, Nat.reduceLeDiff, Nat.reduceSub, Nat.reduceMul, Nat.reducePow, Int.reduceToNat, Int.reduceLT, Int.reduceLE, Int.reduceEq, Int.reduceNeg, decide_true, decide_false, Bool.not_true, Bool.not_false, hm]
  refine allocK_i fun B hB => ?_
  try simp only [set_none] at hB
  try simp only [go_sem, reduceIte, Nat.reduceEqDiff, Nat.reduceAdd, Nat.reduceLT, Nat.reduceLeDiff, Nat.reduceSub, Nat.reduceMul, Nat.reducePow, Int.reduceToNat, Int.reduceLT, Int.reduceLE, Int.reduceEq, Int.reduceNeg, decide_true, decide_false, Bool.not_true, Bool.not_false]
  refine loop_upto (k := 0) h.length (fun k R H1 => H.le H1 ∧ (∃ es clock, H1 B = some (.rows 2 [.agg [evsA h, .mp m]]) ∧ H1 m = some (.map (.ints 2) es clock) ∧ MapIs es (fatesTo h k)) ∧ R = ofL [(3, .ptr B 2 0 0), (16, .ro 7 (h.map evA)), (17, .i h.length), (18, .i k)]) ?_ (Nat.zero_le _) ⟨(by (repeat (first | (refine AHeap.le_set' ?_ (by first | (simp only [*]; done) | (refine AHeap.le_none (by assumption) ?_; simp only [*]))) | (refine AHeap.le_del ?_ (by first | (simp only [*]; done) | (refine AHeap.le_none (by assumption) ?_; simp only [*]))))); first | exact AHeap.le_refl _ | assumption), ⟨[], 0, by simp [evsA, set_get], by simp [set_get, hB], mapIs_nil⟩, rfl⟩
  rintro k R H1 X hkl ⟨hle, ⟨es, clock, h1, h2, h3⟩, rfl⟩ ih
  unfold a27_L1
  simp only [go_sem, reduceIte, Nat.reduceEqDiff, Nat.reduceAdd, Nat.reduceLT, Nat.reduceLeDiff, Nat.reduceSub, Nat.reduceMul, Nat.reducePow, Int.reduceToNat, Int.reduceLT, Int.reduceLE, Int.reduceEq, Int.reduceNeg, decide_true, decide_false, Bool.not_true, Bool.not_false]
  by_cases hlt : k < h.length
  · obtain ⟨x, hx⟩ : ∃ x, h[k]? = some x := ⟨_, List.getElem?_eq_getElem hlt⟩
    have hgx := hg x (List.mem_of_getElem? hx)
    simp only [go_sem, reduceIte, Nat.reduceEqDiff, Nat.reduceAdd, Nat.reduceLT, Nat.reduceLeDiff, Nat.reduceSub, Nat.reduceMul, Nat.reducePow, Int.reduceToNat, Int.reduceLT, Int.reduceLE, Int.reduceEq, Int.reduceNeg, decide_true, decide_false, Bool.not_true, Bool.not_false, hlt, hx, evA]
    refine allocK_i fun bx hbx => ?_
    try simp only [set_none] at hbx
    simp only [go_sem, reduceIte, Nat.reduceEqDiff, Nat.reduceAdd, Nat.reduceLT, Nat.reduceLeDiff, Nat.reduceSub, Nat.reduceMul, Nat.reducePow, Int.reduceToNat, Int.reduceLT, Int.reduceLE, Int.reduceEq, Int.reduceNeg, decide_true, decide_false, Bool.not_true, Bool.not_false, hbx]
    refine allocK_i fun bk hbk => ?_
    try simp only [set_none] at hbk
    have n1 : B ≠ bx := ne_new h1 hbx
    have n2 : m ≠ bx := ne_new h2 hbx
    have n3 : B ≠ bk := ne_new h1 hbk.2.2.2.2
    have n4 : m ≠ bk := ne_new h2 hbk.2.2.2.2
    have h4 := h3 x.round x.tx
    simp only [fateA, Fate.none] at h4
    simp only [go_sem, reduceIte, Nat.reduceEqDiff, Nat.reduceAdd, Nat.reduceLT, Nat.reduceLeDiff, Nat.reduceSub, Nat.reduceMul, Nat.reducePow, Int.reduceToNat, Int.reduceLT, Int.reduceLE, Int.reduceEq, Int.reduceNeg, decide_true, decide_false, Bool.not_true, Bool.not_false, hbx, hbk, n1, n2, n3, n4, h1, h2, keyOf_key2, h4]
    refine allocK_i fun bf hbf => ?_
    try simp only [set_none] at hbf
    have n5 : B ≠ bf := ne_new h1 (by simp only [hbf])
    have n6 : m ≠ bf := ne_new h2 (by simp only [hbf])
    have n7 : B ≠ m := fun e => by rw [e, h2] at h1; cases h1
    have n8 : bx ≠ m := fun e => n2 e.symm
    by_cases w1 : x.what = 1
    · have w2 : ¬ x.what = 2 := by omega
      by_cases g1 : (fatesTo h k x.round x.tx).begun = false
      · have hf : fate1 (fatesTo h k x.round x.tx) k x = { (fatesTo h k x.round x.tx) with begun := true, in_ := x.at_ } := by simp [fate1, w1, g1]
        simp only [go_sem, reduceIte, Nat.reduceEqDiff, Nat.reduceAdd, Nat.reduceLT, Nat.reduceLeDiff, Nat.reduceSub, Nat.reduceMul, Nat.reducePow, Int.reduceToNat, Int.reduceLT, Int.reduceLE, Int.reduceEq, Int.reduceNeg, decide_true, decide_false, Bool.not_true, Bool.not_false, hbx, hbk, hbf, n1, n2, n3, n4, n5, n6, n8, h1, h2, keyOf_key2, h4, w1, g1]
        obtain ⟨es', clock', e1, e2⟩ := mapIs_put h3 x.round x.tx (fate1 (fatesTo h k x.round x.tx) k x) clock
        rw [hf] at e1; simp only [fateA] at e1; rw [e1]
        refine ⟨?_, ?_⟩ <;> (
          refine f27_L0 (h := h) (x := x) (H0 := H) (es := es') (clock := clock') ?_ hB.2.2 hm ?_ ?_ ?_ e2 hgx ?_
          · exact (by (repeat (first | (refine AHeap.le_set' ?_ (by first | (simp only [*]; done) | (refine AHeap.le_none (by assumption) ?_; simp only [*]))) | (refine AHeap.le_del ?_ (by first | (simp only [*]; done) | (refine AHeap.le_none (by assumption) ?_; simp only [*]))))); first | exact AHeap.le_refl _ | assumption)
          · simp [set_get, n8, hbf, hbk, evA, w1, g1]
          · simp [set_get, n1, n3, n5, n7, h1]
          · simp [set_get]
          refine fun H' es' c' l1 l2 l3 l4 => ?_
          simp only [go_sem, reduceIte, Nat.reduceEqDiff, Nat.reduceAdd, Nat.reduceLT, Nat.reduceLeDiff, Nat.reduceSub, Nat.reduceMul, Nat.reducePow, Int.reduceToNat, Int.reduceLT, Int.reduceLE, Int.reduceEq, Int.reduceNeg, decide_true, decide_false, Bool.not_true, Bool.not_false]
          exact ih _ _ hlt ⟨l1, ⟨es', c', l2, l3, by simp only [fatesTo, hx, evStep]; exact l4⟩, by rw [wrap_up (by omega)]⟩)
      · have hf : fate1 (fatesTo h k x.round x.tx) k x = (fatesTo h k x.round x.tx) := by simp [fate1, w1, g1]
        have g1' : (fatesTo h k x.round x.tx).begun = true := by simpa using g1
        simp only [go_sem, reduceIte, Nat.reduceEqDiff, Nat.reduceAdd, Nat.reduceLT, Nat.reduceLeDiff, Nat.reduceSub, Nat.reduceMul, Nat.reducePow, Int.reduceToNat, Int.reduceLT, Int.reduceLE, Int.reduceEq, Int.reduceNeg, decide_true, decide_false, Bool.not_true, Bool.not_false, hbx, hbk, hbf, n1, n2, n3, n4, n5, n6, n8, h1, h2, keyOf_key2, h4, w1, g1']
        obtain ⟨es', clock', e1, e2⟩ := mapIs_put h3 x.round x.tx (fate1 (fatesTo h k x.round x.tx) k x) clock
        rw [hf] at e1; simp only [fateA, g1'] at e1; rw [e1]
        refine f27_L0 (h := h) (x := x) (H0 := H) (es := es') (clock := clock') ?_ hB.2.2 hm ?_ ?_ ?_ e2 hgx ?_
        · exact (by (repeat (first | (refine AHeap.le_set' ?_ (by first | (simp only [*]; done) | (refine AHeap.le_none (by assumption) ?_; simp only [*]))) | (refine AHeap.le_del ?_ (by first | (simp only [*]; done) | (refine AHeap.le_none (by assumption) ?_; simp only [*]))))); first | exact AHeap.le_refl _ | assumption)
        · simp [set_get, n8, hbf, hbk, evA, w1, g1']
        · simp [set_get, n1, n3, n5, n7, h1]
        · simp [set_get]
        refine fun H' es' c' l1 l2 l3 l4 => ?_
        simp only [go_sem, reduceIte, Nat.reduceEqDiff, Nat.reduceAdd, Nat.reduceLT, Nat.reduceLeDiff, Nat.reduceSub, Nat.reduceMul, Nat.reducePow, Int.reduceToNat, Int.reduceLT, Int.reduceLE, Int.reduceEq, Int.reduceNeg, decide_true, decide_false, Bool.not_true, Bool.not_false]
        exact ih _ _ hlt ⟨l1, ⟨es', c', l2, l3, by simp only [fatesTo, hx, evStep]; exact l4⟩, by rw [wrap_up (by omega)]⟩
    · by_cases w2 : x.what = 2
      · by_cases g1 : (fatesTo h k x.round x.tx).done = false
        · have hf : fate1 (fatesTo h k x.round x.tx) k x = { (fatesTo h k x.round x.tx) with done := true, at_ := k } := by simp [fate1, w2, g1]
          simp only [go_sem, reduceIte, Nat.reduceEqDiff, Nat.reduceAdd, Nat.reduceLT, Nat.reduceLeDiff, Nat.reduceSub, Nat.reduceMul, Nat.reducePow, Int.reduceToNat, Int.reduceLT, Int.reduceLE, Int.reduceEq, Int.reduceNeg, decide_true, decide_false, Bool.not_true, Bool.not_false, hbx, hbk, hbf, n1, n2, n3, n4, n5, n6, n8, h1, h2, keyOf_key2, h4, w2, g1]
          obtain ⟨es', clock', e1, e2⟩ := mapIs_put h3 x.round x.tx (fate1 (fatesTo h k x.round x.tx) k x) clock
          rw [hf] at e1; simp only [fateA] at e1; rw [e1]
          refine f27_L0 (h := h) (x := x) (H0 := H) (es := es') (clock := clock') ?_ hB.2.2 hm ?_ ?_ ?_ e2 hgx ?_
          · exact (by (repeat (first | (refine AHeap.le_set' ?_ (by first | (simp only [*]; done) | (refine AHeap.le_none (by assumption) ?_; simp only [*]))) | (refine AHeap.le_del ?_ (by first | (simp only [*]; done) | (refine AHeap.le_none (by assumption) ?_; simp only [*]))))); first | exact AHeap.le_refl _ | assumption)
          · simp [set_get, n8, hbf, hbk, evA, w2, g1]
          · simp [set_get, n1, n3, n5, n7, h1]
          · simp [set_get]
          refine fun H' es' c' l1 l2 l3 l4 => ?_
          simp only [go_sem, reduceIte, Nat.reduceEqDiff, Nat.reduceAdd, Nat.reduceLT, Nat.reduceLeDiff, Nat.reduceSub, Nat.reduceMul, Nat.reducePow, Int.reduceToNat, Int.reduceLT, Int.reduceLE, Int.reduceEq, Int.reduceNeg, decide_true, decide_false, Bool.not_true, Bool.not_false]
          exact ih _ _ hlt ⟨l1, ⟨es', c', l2, l3, by simp only [fatesTo, hx, evStep]; exact l4⟩, by rw [wrap_up (by omega)]⟩
        · have hf : fate1 (fatesTo h k x.round x.tx) k x = (fatesTo h k x.round x.tx) := by simp [fate1, w2, g1]
          have g1' : (fatesTo h k x.round x.tx).done = true := by simpa using g1
          simp only [go_sem, reduceIte, Nat.reduceEqDiff, Nat.reduceAdd, Nat.reduceLT, Nat.reduceLeDiff, Nat.reduceSub, Nat.reduceMul, Nat.reducePow, Int.reduceToNat, Int.reduceLT, Int.reduceLE, Int.reduceEq, Int.reduceNeg, decide_true, decide_false, Bool.not_true, Bool.not_false, hbx, hbk, hbf, n1, n2, n3, n4, n5, n6, n8, h1, h2, keyOf_key2, h4, w2, g1']
          obtain ⟨es', clock', e1, e2⟩ := mapIs_put h3 x.round x.tx (fate1 (fatesTo h k x.round x.tx) k x) clock
          rw [hf] at e1; simp only [fateA, g1'] at e1; rw [e1]
          refine f27_L0 (h := h) (x := x) (H0 := H) (es := es') (clock := clock') ?_ hB.2.2 hm ?_ ?_ ?_ e2 hgx ?_
          · exact (by (repeat (first | (refine AHeap.le_set' ?_ (by first | (simp only [*]; done) | (refine AHeap.le_none (by assumption) ?_; simp only [*]))) | (refine AHeap.le_del ?_ (by first | (simp only [*]; done) | (refine AHeap.le_none (by assumption) ?_; simp only [*]))))); first | exact AHeap.le_refl _ | assumption)
          · simp [set_get, n8, hbf, hbk, evA, w2, g1']
          · simp [set_get, n1, n3, n5, n7, h1]
          · simp [set_get]
          refine fun H' es' c' l1 l2 l3 l4 => ?_
          simp only [go_sem, reduceIte, Nat.reduceEqDiff, Nat.reduceAdd, Nat.reduceLT, Nat.reduceLeDiff, Nat.reduceSub, Nat.reduceMul, Nat.reducePow, Int.reduceToNat, Int.reduceLT, Int.reduceLE, Int.reduceEq, Int.reduceNeg, decide_true, decide_false, Bool.not_true, Bool.not_false]
          exact ih _ _ hlt ⟨l1, ⟨es', c', l2, l3, by simp only [fatesTo, hx, evStep]; exact l4⟩, by rw [wrap_up (by omega)]⟩
      · have hf : fate1 (fatesTo h k x.round x.tx) k x = (fatesTo h k x.round x.tx) := by simp [fate1, w1, w2]
        simp only [go_sem, reduceIte, Nat.reduceEqDiff, Nat.reduceAdd, Nat.reduceLT, Nat.reduceLeDiff, Nat.reduceSub, Nat.reduceMul, Nat.reducePow, Int.reduceToNat, Int.reduceLT, Int.reduceLE, Int.reduceEq, Int.reduceNeg, decide_true, decide_false, Bool.not_true, Bool.not_false, hbx, hbk, hbf, n1, n2, n3, n4, n5, n6, n8, h1, h2, keyOf_key2, h4, w1, w2]
        obtain ⟨es', clock', e1, e2⟩ := mapIs_put h3 x.round x.tx (fate1 (fatesTo h k x.round x.tx) k x) clock
        rw [hf] at e1; simp only [fateA] at e1; rw [e1]
        refine f27_L0 (h := h) (x := x) (H0 := H) (es := es') (clock := clock') ?_ hB.2.2 hm ?_ ?_ ?_ e2 hgx ?_
        · exact (by (repeat (first | (refine AHeap.le_set' ?_ (by first | (simp only [*]; done) | (refine AHeap.le_none (by assumption) ?_; simp only [*]))) | (refine AHeap.le_del ?_ (by first | (simp only [*]; done) | (refine AHeap.le_none (by assumption) ?_; simp only [*]))))); first | exact AHeap.le_refl _ | assumption)
        · simp [set_get, n8, hbf, hbk, evA, w1, w2]
        · simp [set_get, n1, n3, n5, n7, h1]
        · simp [set_get]
        refine fun H' es' c' l1 l2 l3 l4 => ?_
        simp only [go_sem, reduceIte, Nat.reduceEqDiff, Nat.reduceAdd, Nat.reduceLT, Nat.reduceLeDiff, Nat.reduceSub, Nat.reduceMul, Nat.reducePow, Int.reduceToNat, Int.reduceLT, Int.reduceLE, Int.reduceEq, Int.reduceNeg, decide_true, decide_false, Bool.not_true, Bool.not_false]
        exact ih _ _ hlt ⟨l1, ⟨es', c', l2, l3, by simp only [fatesTo, hx, evStep]; exact l4⟩, by rw [wrap_up (by omega)]⟩
  · simp only [go_sem, reduceIte, Nat.reduceEqDiff, Nat.reduceAdd, Nat.reduceLT, Nat.reduceLeDiff, Nat.reduceSub, Nat.reduceMul, Nat.reducePow, Int.reduceToNat, Int.reduceLT, Int.reduceLE, Int.reduceEq, Int.reduceNeg, decide_true, decide_false, Bool.not_true, Bool.not_false, hlt]
    have : k = h.length := by omega
    subst this
    exact hk _ _ hle ⟨m, es, clock, h1, h2, h3⟩
end Go.Proofs.Ytaeanhonfoakeaa
end

section
namespace Go.Proofs.Ytaeanhonfoakeaa
open Go Heron
set_option linter.unusedSimpArgs false
set_option linter.unusedVariables false

def Fate.ok (f : Fate) (t : Int) : Bool := !(decide (t < 0)) && f.begun && f.done && !f.gone
/-- Is it fixed, within so many steps? -/
def fixedF (F : Fates) (r : Int) : Nat → Int → Bool
  | 0, _ => false
  | n + 1, t => if (F r t).ok t then (if (F r t).in_ = -1 then true else fixedF F r n (F r t).in_) else false
def fixed (h : List Ev) (r t : Int) : Bool := fixedF (fates h) r (h.length + 1) t

set_option maxHeartbeats 1000000 in
theorem f33_c {H : AHeap} {B : Nat} {h : List Ev} {F : Fates} (hb : BookF H B h F) (hl : h.length ≤ 2 ^ 20) (r t : Int) {K : AVal → AHeap → Prop} (hk : K (.b (fixedF F r (h.length + 1) t)) H) : callP Try.prog 33 [.ptr B 2 0 0, .agg [.i r, .i t]] H K := by
  refine callP_post (K' := fun v1 H1 => GhV v1 H1 (.b (fixedF F r (h.length + 1) t)) H) ?_ fun v1 H1 g => ⟨_, _, g, hk⟩
  clear hk
  obtain ⟨m, es, clock, h1, h2, h3⟩ := hb
  refine callP_body mixed Try.func33 a33_ok (by simp [a33]) ?_; simp only [a33, go_sem, reduceIte, Nat.reduceEqDiff, Nat.reduceAdd, Nat.reduceLT, Nat.reduceLeDiff, Nat.reduceSub, Nat.reduceMul, Nat.reducePow, Int.reduceToNat, Int.reduceLT, Int.reduceLE, Int.reduceEq, Int.reduceNeg, decide_true, decide_false, Bool.not_true, Bool.not_false]
  refine allocK_i fun bt hbt => ?_
  try simp only [set_none] at hbt
  have n1 : B ≠ bt := ne_new h1 hbt
  have w1 : IntKind.i64.wrap ((h.length : Int) + 1) = ((h.length + 1 : Nat) : Int) := wrap_up (by omega)
  simp only [go_sem, reduceIte, Nat.reduceEqDiff, Nat.reduceAdd, Nat.reduceLT, Nat.reduceLeDiff, Nat.reduceSub, Nat.reduceMul, Nat.reducePow, Int.reduceToNat, Int.reduceLT, Int.reduceLE, Int.reduceEq, Int.reduceNeg, decide_true, decide_false, Bool.not_true, Bool.not_false, n1, h1, evsA, w1]
  refine loop_upto (k := 0) (h.length + 1) (fun k R H1 => H.le H1 ∧ (∃ t', H1 bt = some (.rows 2 [.agg [.i r, .i t']]) ∧ fixedF F r (h.length + 1 - k) t' = fixedF F r (h.length + 1) t) ∧ R = ofL [(0, .ptr B 2 0 0), (3, .ptr bt 2 0 0), (11, .i (h.length + 1 : Nat)), (12, .i k)]) ?_ (Nat.zero_le _) ⟨(by (repeat (first | (refine AHeap.le_set' ?_ (by first | (simp only [*]; done) | (refine AHeap.le_none (by assumption) ?_; simp only [*]))) | (refine AHeap.le_del ?_ (by first | (simp only [*]; done) | (refine AHeap.le_none (by assumption) ?_; simp only [*]))))); first | exact AHeap.le_refl _ | assumption), ⟨t, by simp [set_get], rfl⟩, rfl⟩
  rintro k R H1 X hk ⟨hle, ⟨t', ht, hf⟩, rfl⟩ ih
  unfold a33_L0
  simp only [go_sem, reduceIte, Nat.reduceEqDiff, Nat.reduceAdd, Nat.reduceLT, Nat.reduceLeDiff, Nat.reduceSub, Nat.reduceMul, Nat.reducePow, Int.reduceToNat, Int.reduceLT, Int.reduceLE, Int.reduceEq, Int.reduceNeg, decide_true, decide_false, Bool.not_true, Bool.not_false]
  by_cases hlt : k < h.length + 1
  · rw [show h.length + 1 - k = (h.length + 1 - (k + 1)) + 1 by omega, fixedF] at hf
    rw [← hf]
    have h1' := hle _ _ h1
    have h2' := hle _ _ h2
    have h4 := h3 r t'
    simp only [fateA, Fate.none] at h4
    simp only [go_sem, reduceIte, Nat.reduceEqDiff, Nat.reduceAdd, Nat.reduceLT, Nat.reduceLeDiff, Nat.reduceSub, Nat.reduceMul, Nat.reducePow, Int.reduceToNat, Int.reduceLT, Int.reduceLE, Int.reduceEq, Int.reduceNeg, decide_true, decide_false, Bool.not_true, Bool.not_false, hlt, h1', h2', ht, keyOf_key2, h4]
    refine allocK_i fun bf hbf => ?_
    try simp only [set_none] at hbf
    have n2 : B ≠ bf := ne_new h1' hbf
    have n3 : bt ≠ bf := ne_new ht hbf
    simp only [go_sem, reduceIte, Nat.reduceEqDiff, Nat.reduceAdd, Nat.reduceLT, Nat.reduceLeDiff, Nat.reduceSub, Nat.reduceMul, Nat.reducePow, Int.reduceToNat, Int.reduceLT, Int.reduceLE, Int.reduceEq, Int.reduceNeg, decide_true, decide_false, Bool.not_true, Bool.not_false, n2, n3, ht, hbf, h1', h2', keyOf_key2, h4]
    by_cases g1 : t' < 0
    · have hok : (F r t').ok t' = false := by simp [Fate.ok, g1]
      simp only [go_sem, reduceIte, Nat.reduceEqDiff, Nat.reduceAdd, Nat.reduceLT, Nat.reduceLeDiff, Nat.reduceSub, Nat.reduceMul, Nat.reducePow, Int.reduceToNat, Int.reduceLT, Int.reduceLE, Int.reduceEq, Int.reduceNeg, decide_true, decide_false, Bool.not_true, Bool.not_false, g1, hok, Bool.false_eq_true]
      exact GhV.le (by (repeat (first | (refine AHeap.le_set' ?_ (by first | (simp only [*]; done) | (refine AHeap.le_none (by assumption) ?_; simp only [*]))) | (refine AHeap.le_del ?_ (by first | (simp only [*]; done) | (refine AHeap.le_none (by assumption) ?_; simp only [*]))))); first | exact AHeap.le_refl _ | assumption)
    · by_cases g2 : (F r t').begun = true
      · by_cases g3 : (F r t').done = true
        · by_cases g4 : (F r t').gone = true
          · have hok : (F r t').ok t' = false := by simp [Fate.ok, g4]
            rw [hok]
            simp only [go_sem, reduceIte, Nat.reduceEqDiff, Nat.reduceAdd, Nat.reduceLT, Nat.reduceLeDiff, Nat.reduceSub, Nat.reduceMul, Nat.reducePow, Int.reduceToNat, Int.reduceLT, Int.reduceLE, Int.reduceEq, Int.reduceNeg, decide_true, decide_false, Bool.not_true, Bool.not_false, g1, g2, g3, g4, Bool.false_eq_true]
            exact GhV.le (by (repeat (first | (refine AHeap.le_set' ?_ (by first | (simp only [*]; done) | (refine AHeap.le_none (by assumption) ?_; simp only [*]))) | (refine AHeap.le_del ?_ (by first | (simp only [*]; done) | (refine AHeap.le_none (by assumption) ?_; simp only [*]))))); first | exact AHeap.le_refl _ | assumption)
          · have g4' : (F r t').gone = false := by simpa using g4
            by_cases g5 : (F r t').in_ = -1
            · have hok : (F r t').ok t' = true := by simp [Fate.ok, g1, g2, g3, g4']
              rw [hok]
              simp only [go_sem, reduceIte, Nat.reduceEqDiff, Nat.reduceAdd, Nat.reduceLT, Nat.reduceLeDiff, Nat.reduceSub, Nat.reduceMul, Nat.reducePow, Int.reduceToNat, Int.reduceLT, Int.reduceLE, Int.reduceEq, Int.reduceNeg, decide_true, decide_false, Bool.not_true, Bool.not_false, g1, g2, g3, g4', g5]
              exact GhV.le (by (repeat (first | (refine AHeap.le_set' ?_ (by first | (simp only [*]; done) | (refine AHeap.le_none (by assumption) ?_; simp only [*]))) | (refine AHeap.le_del ?_ (by first | (simp only [*]; done) | (refine AHeap.le_none (by assumption) ?_; simp only [*]))))); first | exact AHeap.le_refl _ | assumption)
            · simp only [go_sem, reduceIte, Nat.reduceEqDiff, Nat.reduceAdd, Nat.reduceLT, Nat.reduceLeDiff, Nat.reduceSub, Nat.reduceMul, Nat.reducePow, Int.reduceToNat, Int.reduceLT, Int.reduceLE, Int.reduceEq, Int.reduceNeg, decide_true, decide_false, Bool.not_true, Bool.not_false, g1, g2, g3, g4', g5, n3, ht]
              have hok : (F r t').ok t' = true := by simp [Fate.ok, g1, g2, g3, g4']
              rw [if_pos hok, if_neg g5] at hf
              refine ih _ _ hlt ⟨(by (repeat (first | (refine AHeap.le_set' ?_ (by first | (simp only [*]; done) | (refine AHeap.le_none (by assumption) ?_; simp only [*]))) | (refine AHeap.le_del ?_ (by first | (simp only [*]; done) | (refine AHeap.le_none (by assumption) ?_; simp only [*]))))); first | exact AHeap.le_refl _ | assumption), ⟨(F r t').in_, by simp [set_get], ?_⟩, by rw [wrap_up (by omega)]⟩
              exact hf
        · have g3' : (F r t').done = false := by simpa using g3
          have hok : (F r t').ok t' = false := by simp [Fate.ok, g3']
          simp only [go_sem, reduceIte, Nat.reduceEqDiff, Nat.reduceAdd, Nat.reduceLT, Nat.reduceLeDiff, Nat.reduceSub, Nat.reduceMul, Nat.reducePow, Int.reduceToNat, Int.reduceLT, Int.reduceLE, Int.reduceEq, Int.reduceNeg, decide_true, decide_false, Bool.not_true, Bool.not_false, g1, g2, g3', hok, Bool.false_eq_true]
          exact GhV.le (by (repeat (first | (refine AHeap.le_set' ?_ (by first | (simp only [*]; done) | (refine AHeap.le_none (by assumption) ?_; simp only [*]))) | (refine AHeap.le_del ?_ (by first | (simp only [*]; done) | (refine AHeap.le_none (by assumption) ?_; simp only [*]))))); first | exact AHeap.le_refl _ | assumption)
      · have g2' : (F r t').begun = false := by simpa using g2
        have hok : (F r t').ok t' = false := by simp [Fate.ok, g2']
        simp only [go_sem, reduceIte, Nat.reduceEqDiff, Nat.reduceAdd, Nat.reduceLT, Nat.reduceLeDiff, Nat.reduceSub, Nat.reduceMul, Nat.reducePow, Int.reduceToNat, Int.reduceLT, Int.reduceLE, Int.reduceEq, Int.reduceNeg, decide_true, decide_false, Bool.not_true, Bool.not_false, g1, g2', hok, Bool.false_eq_true]
        exact GhV.le (by (repeat (first | (refine AHeap.le_set' ?_ (by first | (simp only [*]; done) | (refine AHeap.le_none (by assumption) ?_; simp only [*]))) | (refine AHeap.le_del ?_ (by first | (simp only [*]; done) | (refine AHeap.le_none (by assumption) ?_; simp only [*]))))); first | exact AHeap.le_refl _ | assumption)
  · simp only [go_sem, reduceIte, Nat.reduceEqDiff, Nat.reduceAdd, Nat.reduceLT, Nat.reduceLeDiff, Nat.reduceSub, Nat.reduceMul, Nat.reducePow, Int.reduceToNat, Int.reduceLT, Int.reduceLE, Int.reduceEq, Int.reduceNeg, decide_true, decide_false, Bool.not_true, Bool.not_false, hlt]
    have : k = h.length + 1 := by omega
    subst this
    rw [Nat.sub_self, fixedF] at hf
    rw [← hf]
    exact GhV.le (by (repeat (first | (refine AHeap.le_set' ?_ (by first | (simp only [*]; done) | (refine AHeap.le_none (by assumption) ?_; simp only [*]))) | (refine AHeap.le_del ?_ (by first | (simp only [*]; done) | (refine AHeap.le_none (by assumption) ?_; simp only [*]))))); first | exact AHeap.le_refl _ | assumption)

theorem f18_c (h : List Ev) (hl : h.length ≤ 2 ^ 20) (hg : ∀ x ∈ h, x.gone.length ≤ 2 ^ 20) (r t : Int) : Gives Try.prog 18 [evsA h, .i r, .i t] (.b (fixed h r t)) := by
  intro H
  refine callP_body mixed Try.func18 a18_ok (by simp [a18]) ?_; simp only [a18, go_sem, reduceIte, Nat.reduceEqDiff, Nat.reduceAdd, Nat.reduceLT, Nat.reduceLeDiff, Nat.reduceSub, Nat.reduceMul, Nat.reducePow, Int.reduceToNat, Int.reduceLT, Int.reduceLE, Int.reduceEq, Int.reduceNeg, decide_true, decide_false, Bool.not_true, Bool.not_false]
  refine f27_c h hl hg fun B H1 hle hb => ?_
  simp only [go_sem, reduceIte, Nat.reduceEqDiff, Nat.reduceAdd, Nat.reduceLT, Nat.reduceLeDiff, Nat.reduceSub, Nat.reduceMul, Nat.reducePow, Int.reduceToNat, Int.reduceLT, Int.reduceLE, Int.reduceEq, Int.reduceNeg, decide_true, decide_false, Bool.not_true, Bool.not_false]
  refine f33_c hb hl r t ?_
  simp only [go_sem, reduceIte, Nat.reduceEqDiff, Nat.reduceAdd, Nat.reduceLT, Nat.reduceLeDiff, Nat.reduceSub, Nat.reduceMul, Nat.reducePow, Int.reduceToNat, Int.reduceLT, Int.reduceLE, Int.reduceEq, Int.reduceNeg, decide_true, decide_false, Bool.not_true, Bool.not_false]
  exact GhV.le hle
end Go.Proofs.Ytaeanhonfoakeaa
end
