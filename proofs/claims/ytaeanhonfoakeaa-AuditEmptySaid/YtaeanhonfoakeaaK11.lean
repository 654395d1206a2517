/- Accumulators beside other memory; several of them given back at once. The library's sort, at a slice of one's own. -/
import Derived.Test.YtaeanhonfoakeaaK10
import Derived.Shelf.Sort.Plain
section
set_option linter.unusedSimpArgs false
set_option linter.unusedVariables false
namespace Heron
open Go

@[go_sem] theorem qcallK_some {P : Program} {f : FuncId} {l : List AVal} {K : AVal → AHeap → Prop} {H : AHeap} : qcallK P f (some l) K H = ∃ v, QCall P f l H v ∧ K v H := nr rfl
@[go_sem] theorem cpyO_some {sz : Nat} {a : AVal} {ys : List AVal} {K : AVal → AHeap → Prop} {H : AHeap} : cpyO sz (some a) (some ys) K H = (okEs ys ∧ cpyK (cpyH H sz a ys) K) := nr rfl
theorem okEs_ub {l : List UInt8} : okEs (l.map ub) := by
  intro e he
  obtain ⟨x, _, rfl⟩ := List.mem_map.1 he
  rfl
def cpyC (H : AHeap) (sz b row len : Nat) (ys : List AVal) (o : Option AObj) : Option (Nat × AHeap) := match o with
  | some (.rows sz'' es) => if sz = sz'' ∧ row + len ≤ es.length then some (min ys.length len, H.set b (.rows sz (es.take row ++ ys.take len ++ es.drop (row + min ys.length len)))) else none
  | _ => none
@[go_sem] theorem cpyH_sl {sz b row len cap : Nat} {ys : List AVal} {H : AHeap} : cpyH H sz (.sl b sz row len cap) ys = cpyC H sz b row len ys (H b) := by
  simp only [cpyH, cpyC]
  cases H b with
  | none => rfl
  | some o => cases o <;> simp
@[go_sem] theorem cpyC_rows {sz b row len : Nat} {ys es : List AVal} {H : AHeap} (h : row + len ≤ es.length) : cpyC H sz b row len ys (some (.rows sz es)) = some (min ys.length len, H.set b (.rows sz (es.take row ++ ys.take len ++ es.drop (row + min ys.length len)))) := by simp [cpyC, h]
@[go_sem] theorem cpyK_some {n : Nat} {H : AHeap} {K : AVal → AHeap → Prop} : cpyK (some (n, H)) K = K (.i n) H := nr rfl
@[congr] theorem cpyK_congr {o o' : Option (Nat × AHeap)} {K : AVal → AHeap → Prop} (h : o = o') : cpyK o K = cpyK o' K := by rw [h]
attribute [go_sem] List.length_replicate List.take_zero List.nil_append

/-- The block of a slice of one's own. -/
def AVal.blk : AVal → Option Nat
  | .sl b _ _ _ _ => some b
  | _ => none

theorem Acc.blk_none {H0 H : AHeap} {sz : Nat} {xs : List AVal} {a : AVal} (h : Acc H0 sz xs a H) {b : Nat} (hb : a.blk = some b) : H0 b = none ∧ H b = some (.rows sz xs) := by
  rcases h.is with ⟨_, rfl⟩ | ⟨b', cap, h1, rfl, h3⟩
  · cases hb
  · cases hb; exact ⟨h1, h3⟩

theorem Acc.ne_obj {H0 H : AHeap} {sz : Nat} {xs : List AVal} {a : AVal} (h : Acc H0 sz xs a H) {d : Nat} {o : AObj} (hd : H d = some o) (ho : o ≠ .rows sz xs) : a.blk ≠ some d := fun e => by
  have := (h.blk_none e).2
  rw [hd] at this
  exact ho (Option.some.inj this)
theorem Acc.ne_new {H0 H : AHeap} {sz : Nat} {xs : List AVal} {a : AVal} (h : Acc H0 sz xs a H) {d : Nat} (hd : H d = none) : a.blk ≠ some d := fun e => by
  have := (h.blk_none e).2
  rw [hd] at this
  cases this
theorem Acc.sl_of {H0 H : AHeap} {sz : Nat} {xs : List AVal} {a : AVal} (h : Acc H0 sz xs a H) (hx : xs ≠ []) : ∃ b cap, a = .sl b sz 0 xs.length cap ∧ H0 b = none ∧ H b = some (.rows sz xs) := by
  rcases h.is with ⟨rfl, _⟩ | ⟨b, cap, h1, h2, h3⟩
  · exact absurd rfl hx
  · exact ⟨b, cap, h2, h1, h3⟩

theorem Acc.app' {H0 H : AHeap} {sz bytes : Nat} {xs ys : List AVal} {a : AVal} {K : AVal → AHeap → Prop} (h : Acc H0 sz xs a H) (hr : (xs.length + ys.length) * bytes ≤ 2 ^ 40) (hok : okEs ys)
    (hk : ∀ a' H', Acc H0 sz (xs ++ ys) a' H' → (∀ d o, H d = some o → a.blk ≠ some d → H' d = some o) → (∀ d, a'.blk = some d → a.blk = some d ∨ H d = none) → K a' H') : appK sz bytes a ys K H := by
  rcases h.is with ⟨rfl, rfl⟩ | ⟨b, cap, h1, rfl, h3⟩
  · refine ⟨by simpa [room] using hr, fun e => hk _ _ ?_ (fun d o e _ => e) (fun d e => by cases e), fun e b cap hb hc => hk _ _ ?_ (fun d o e _ => ?_) (fun d e => ?_)⟩
    · subst e; exact Acc.nil h.le
    · exact ⟨AHeap.le_setN h.le hb, .inr ⟨b, cap, AHeap.le_none h.le hb, rfl, by simp [set_get]⟩⟩
    · rw [set_get, if_neg (fun ed => by subst ed; rw [hb] at e; cases e)]; exact e
    · cases e; exact .inr hb
  · simp only [appK, h3]
    refine ⟨trivial, trivial, trivial, trivial, hr, hok, fun b' cap' hb' hc' => hk _ _ ?_ (fun d o e hne => ?_) (fun d e => ?_)⟩
    · have hle := AHeap.le_del h.le h1
      refine ⟨AHeap.le_setN hle ?_, .inr ⟨b', cap', ?_, by simp, by simp [set_get]⟩⟩
      · rcases hb' with ⟨rfl, _⟩ | hb'
        · simp [AHeap.del]
        · simp [AHeap.del, hb']
      · rcases hb' with ⟨rfl, _⟩ | hb'
        · exact h1
        · exact AHeap.le_none h.le hb'
    · have hdb : d ≠ b := fun ed => hne (by rw [ed]; rfl)
      have hdb' : d ≠ b' := by
        rcases hb' with ⟨rfl, _⟩ | hb'
        · exact hdb
        · intro ed; subst ed; rw [hb'] at e; cases e
      rw [set_get, if_neg hdb', del_get, if_neg hdb]; exact e
    · cases e
      rcases hb' with ⟨rfl, _⟩ | hb'
      · exact .inl rfl
      · exact .inr hb'

theorem Acc.appk' {H0 H : AHeap} {sz bytes : Nat} {xs ys : List AVal} {a : AVal} {K : AVal → AHeap → Prop} (h : Acc H0 sz xs a H) (hr : (xs.length + ys.length) * bytes ≤ 2 ^ 40) (hok : okEs ys)
    (hk : ∀ a' H', Acc H0 sz (xs ++ ys) a' H' → (∀ d o, H d = some o → a.blk ≠ some d → H' d = some o) → (∀ d, a'.blk = some d → a.blk = some d ∨ H d = none) → K a' H') : appkK sz bytes a ys K H := by
  rcases h.is with ⟨rfl, rfl⟩ | ⟨b, cap, h1, rfl, h3⟩
  · refine ⟨by simpa [room] using hr, fun e => hk _ _ ?_ (fun d o e _ => e) (fun d e => by cases e), fun e b cap hb hc => hk _ _ ?_ (fun d o e _ => ?_) (fun d e => ?_)⟩
    · subst e; exact Acc.nil h.le
    · exact ⟨AHeap.le_setN h.le hb, .inr ⟨b, cap, AHeap.le_none h.le hb, rfl, by simp [set_get]⟩⟩
    · rw [set_get, if_neg (fun ed => by subst ed; rw [hb] at e; cases e)]; exact e
    · cases e; exact .inr hb
  · simp only [appkK, h3]
    refine ⟨trivial, trivial, by omega, hr, hok, fun hc => hk _ _ ?_ (fun d o e hne => ?_) (fun d e => ?_), fun hc b' cap' hb' hc' => hk _ _ ?_ (fun d o e hne => ?_) (fun d e => ?_)⟩
    · refine ⟨AHeap.le_set' h.le h1, .inr ⟨b, cap, h1, by simp, ?_⟩⟩
      rw [set_get, if_pos rfl]
      rw [show 0 + xs.length = xs.length by omega, List.take_length, List.drop_of_length_le (by omega), List.append_nil]
    · rw [set_get, if_neg (fun ed => hne (by rw [ed]; rfl))]; exact e
    · cases e; exact .inl rfl
    · refine ⟨AHeap.le_setN h.le hb', .inr ⟨b', cap', AHeap.le_none h.le hb', by simp, ?_⟩⟩
      rw [set_get, if_pos rfl, List.drop_zero, List.take_length]
    · rw [set_get, if_neg (fun ed => by subst ed; rw [hb'] at e; cases e)]; exact e
    · cases e; exact .inr hb'

theorem Acc.appn {H0 H : AHeap} {sz bytes : Nat} {ys : List AVal} {b : Nat} {K : AVal → AHeap → Prop} (hle : H0.le H) (h0 : H0 b = none) (hb : H b = some (.rows sz [])) (hr : ys.length * bytes ≤ 2 ^ 40)
    (hk : ∀ a' H', Acc H0 sz ys a' H' → H.le H' → (∀ d, a'.blk = some d → d = b ∨ H d = none) → K a' H') : appnK sz bytes (.sl b sz 0 0 0) ys K H := by
  refine ⟨hr, fun e => hk _ _ ?_ (AHeap.le_refl _) (fun d e => by cases e; exact .inl rfl), fun e b' cap hb' hc => hk _ _ ?_ (AHeap.le_setN (AHeap.le_refl _) hb') (fun d e => by cases e; exact .inr hb')⟩
  · subst e
    exact ⟨hle, .inr ⟨b, 0, h0, rfl, hb⟩⟩
  · exact ⟨AHeap.le_setN hle hb', .inr ⟨b', cap, AHeap.le_none hle hb', rfl, by simp [set_get]⟩⟩

@[go_sem] theorem appzK_some {sz bytes : Nat} {zero a : AVal} {n : Int} {K : AVal → AHeap → Prop} {H : AHeap} : appzK sz bytes zero (some a) (some n) K H = (0 ≤ n ∧ room n.toNat bytes ∧ appkK sz bytes a (List.replicate n.toNat zero) K H) := nr rfl
@[go_sem] theorem qSub_hi {sz : Nat} {es : List AVal} {h : Int} : qSub sz (.ro sz es) none (some h) none = if 0 ≤ h ∧ h ≤ es.length then some (.ro sz (es.take h.toNat)) else none := by
  simp [qSub]
@[go_sem] theorem qSub_lo {sz : Nat} {es : List AVal} {l : Int} : qSub sz (.ro sz es) (some l) none none = if 0 ≤ l ∧ l ≤ es.length then some (.ro sz (es.drop l.toNat)) else none := by
  simp [qSub]

def AHeap.delO (H : AHeap) : Option Nat → AHeap
  | some b => H.del b
  | none => H

theorem vrels_mid {G : Ghost} {pre post : List AVal} {a : AVal} {vs : List Value} (h : VRels G (pre ++ a :: post) vs) : ∃ v, vs[pre.length]? = some v ∧ VRel G a v := by
  have hl : pre.length < vs.length := by rw [h.1]; simp
  exact ⟨vs[pre.length], by simp [hl], h.2 pre.length a _ (by simp) (by simp [hl])⟩

/-- One of the things that are handed on is given back read-only. -/
theorem Acc.handed {H0 H : AHeap} {sz : Nat} {xs : List AVal} {a : AVal} (h : Acc H0 sz xs a H) (pre post : List AVal) : GhA (pre ++ a :: post) H (pre ++ .ro sz xs :: post) (H.delO a.blk) := by
  rcases h.is with ⟨rfl, rfl⟩ | ⟨b, cap, h1, rfl, h3⟩
  · refine GhA.conv ?_ (fun c o e => ⟨o, e, OWk.refl c o⟩)
    have hrefl : ∀ l : List AVal, WkL l l := fun l => by
      induction l with
      | nil => exact .nil
      | cons a r ih => exact .cons (Wk.refl a) ih
    induction pre with
    | nil => exact .cons (wk_nil sz) (hrefl post)
    | cons p r ih => exact .cons (Wk.refl p) ih
  · refine GhA.freezeTo (b := b) (sz := sz) (es := xs) h3 (by simp) (fun i x x' e1 e2 => ?_) (fun c o' e => ?_)
    · by_cases hi : i = pre.length
      · subst hi
        simp at e1 e2
        subst e1; subst e2
        right
        simp [frzE, frzA, frzV]
      · left
        by_cases hlt : i < pre.length
        · rw [List.getElem?_append_left hlt] at e1 e2
          rw [e1] at e2
          exact Option.some.inj e2
        · rw [List.getElem?_append_right (by omega)] at e1 e2
          obtain ⟨k, hk⟩ : ∃ k, i - pre.length = k + 1 := ⟨i - pre.length - 1, by omega⟩
          rw [hk] at e1 e2
          simp only [List.getElem?_cons_succ] at e1 e2
          rw [e1] at e2
          exact Option.some.inj e2
    · simp only [AVal.blk, AHeap.delO] at e
      unfold AHeap.del at e
      by_cases hc : c = b
      · simp [hc] at e
      · simp only [hc, if_false] at e
        exact ⟨hc, .inl e⟩

theorem Acc.away {H0 H : AHeap} {sz : Nat} {xs : List AVal} {a : AVal} (h : Acc H0 sz xs a H) {o : Option Nat} (ho : ∀ b, o = some b → H0 b = none ∧ a.blk ≠ some b) : Acc H0 sz xs a (H.delO o) := by
  cases o with
  | none => exact h
  | some b =>
    obtain ⟨h1, h2⟩ := ho b rfl
    refine ⟨AHeap.le_del h.le h1, ?_⟩
    rcases h.is with h3 | ⟨b', cap, h4, rfl, h6⟩
    · exact .inl h3
    · refine .inr ⟨b', cap, h4, rfl, ?_⟩
      show (H.del b) b' = _
      rw [del_get, if_neg (fun e => h2 (by rw [← e]; rfl))]
      exact h6

theorem Acc.rebase {H0 H0' H : AHeap} {sz : Nat} {xs : List AVal} {a : AVal} (h : Acc H0' sz xs a H) (hl : H0.le H0') : Acc H0 sz xs a H := by
  refine ⟨AHeap.le_trans' hl h.le, ?_⟩
  rcases h.is with h1 | ⟨b, cap, h1, h2, h3⟩
  · exact .inl h1
  · exact .inr ⟨b, cap, AHeap.le_none hl h1, h2, h3⟩

theorem Acc.move {H0 H H' : AHeap} {sz : Nat} {xs : List AVal} {a : AVal} (h : Acc H0 sz xs a H) (hle : H0.le H') (hk : ∀ c, a.blk = some c → H' c = H c) : Acc H0 sz xs a H' := by
  refine ⟨hle, ?_⟩
  rcases h.is with h1 | ⟨b, cap, h1, rfl, h3⟩
  · exact .inl h1
  · exact .inr ⟨b, cap, h1, rfl, by rw [hk b rfl]; exact h3⟩

/-- Two of them. -/
theorem Acc.two {H0 H : AHeap} {sz sz' : Nat} {xs ys : List AVal} {a c : AVal} (h : Acc H0 sz xs a H) (k : Acc H0 sz' ys c H) (hne : ∀ b, a.blk = some b → c.blk ≠ some b) (post : List AVal) : GhA (a :: c :: post) H (.ro sz xs :: .ro sz' ys :: post) H0 := by
  have h1 := h.handed [] (c :: post)
  have k' : Acc H0 sz' ys c (H.delO a.blk) := k.away (fun b hb => ⟨(h.blk_none hb).1, hne b hb⟩)
  have h2 := k'.handed [.ro sz xs] post
  have h3 : H0.le ((H.delO a.blk).delO c.blk) := by
    cases hc : c.blk with
    | none => exact k'.le
    | some b => exact AHeap.le_del k'.le (k.blk_none hc).1
  exact (h1.trans h2).trans (GhA.less h3)

theorem GhV.agg {cs cs' : List AVal} {H H1 : AHeap} (h : GhA cs H1 cs' H) : GhV (.agg cs) H1 (.agg cs') H := by
  refine ⟨h.1, fun G w vs hs hv => ?_⟩
  obtain ⟨v, rfl⟩ : ∃ v, vs = [v] := by
    have := hv.1
    cases vs with
    | nil => simp at this
    | cons v r => cases r with
      | nil => exact ⟨v, rfl⟩
      | cons _ _ => simp at this
  have hv0 := hv.2 0 _ v rfl rfl
  cases hv0 with
  | agg _ us hn hh =>
    obtain ⟨G', a1, a2, a3⟩ := h.2 G w us.toList hs ⟨by simpa using hn, fun i c u h1 h2 => hh i c u h1 (by simpa using h2)⟩
    refine ⟨G', a1, a2, rfl, fun i c u h1 h2 => ?_⟩
    cases i with
    | zero =>
      simp at h1 h2
      subst h1; subst h2
      exact .agg _ _ (by simpa using a3.1) (fun i c u h1 h2 => a3.2 i c u h1 (by simpa using h2))
    | succ i => simp at h1

theorem GhV.tup2 {a c r a' c' r' : AVal} {H H1 : AHeap} (h : GhA [a, c, r] H1 [a', c', r'] H) : GhV (.tup [.agg [a, c], r]) H1 (.tup [.agg [a', c'], r']) H := by
  refine ⟨h.1, fun G w vs hs hv => ?_⟩
  obtain ⟨v, rfl⟩ : ∃ v, vs = [v] := by
    have := hv.1
    cases vs with
    | nil => simp at this
    | cons v r => cases r with
      | nil => exact ⟨v, rfl⟩
      | cons _ _ => simp at this
  have hv0 := hv.2 0 _ v rfl rfl
  cases hv0 with
  | tup _ us hn hh =>
    have hus : us.size = 2 := by simpa using hn
    have h0 := hh 0 _ (us[0]'(by omega)) rfl (by simp [hus])
    have h1 := hh 1 _ (us[1]'(by omega)) rfl (by simp [hus])
    generalize hg0 : us[0]'(by omega) = u0 at h0
    generalize hg1 : us[1]'(by omega) = u1 at h1
    cases h0 with
    | agg _ ws hm hk =>
      have hws : ws.size = 2 := by simpa using hm
      obtain ⟨G', a1, a2, a3⟩ := h.2 G w [ws[0]'(by omega), ws[1]'(by omega), u1] hs ⟨rfl, fun i x u e1 e2 => by
        match i with
        | 0 => simp at e1 e2; subst e1; subst e2; exact hk 0 _ _ rfl (by simp [hws])
        | 1 => simp at e1 e2; subst e1; subst e2; exact hk 1 _ _ rfl (by simp [hws])
        | 2 => simp at e1 e2; subst e1; subst e2; exact h1
        | _ + 3 => simp at e1⟩
      refine ⟨G', a1, a2, rfl, fun i x u e1 e2 => ?_⟩
      cases i with
      | zero =>
        simp at e1 e2
        subst e1; subst e2
        refine .tup _ _ (by simpa using hus) (fun i x u e1 e2 => ?_)
        match i with
        | 0 =>
          simp at e1
          subst e1
          have : u = .agg ws := by
            rw [Array.getElem?_eq_getElem (by omega), hg0] at e2
            exact (Option.some.inj e2).symm
          subst this
          refine .agg _ _ (by simpa using hws) (fun i x u e1 e2 => ?_)
          match i with
          | 0 => simp at e1; subst e1; rw [Array.getElem?_eq_getElem (by omega)] at e2; cases e2; exact a3.2 0 _ _ rfl rfl
          | 1 => simp at e1; subst e1; rw [Array.getElem?_eq_getElem (by omega)] at e2; cases e2; exact a3.2 1 _ _ rfl rfl
          | _ + 2 => simp at e1
        | 1 =>
          simp at e1
          subst e1
          rw [Array.getElem?_eq_getElem (by omega), hg1] at e2
          cases e2
          exact a3.2 2 _ _ rfl rfl
        | _ + 2 => simp at e1
      | succ i => simp at e1
end Heron
end

section
set_option linter.unusedSimpArgs false
set_option linter.unusedVariables false
namespace Heron
open Go Go.Proofs Go.Sort

/-- A row that is written whole, and new blocks behind. -/
theorem sort_callP {P : Program} {f : FuncId} (hk : ∀ (blk off cap : Nat) (zs : List Int) (w : World), Holds (Value.int .i64) w blk off zs.toArray → blk < w.heap.size → zs.length < 4611686018427387904 →
      Calls P f #[.slice (some ⟨blk, off, none⟩) zs.length cap] w fun e w' =>
        e = .returned (.tuple #[]) ∧ ∃ n os, w' = grow (putRow (Value.int .i64) (Sort.ahead w n) blk off (zs.mergeSort fun x y => decide (x ≤ y)).toArray) os)
    {H : AHeap} {b cap : Nat} {zs : List Int} (hb : H b = some (.rows 1 (zs.map AVal.i))) (hlen : zs.length < 4611686018427387904) {K : AVal → AHeap → Prop}
    (hK : K (.tup []) (H.set b (.rows 1 ((zs.mergeSort fun x y => decide (x ≤ y)).map AVal.i)))) : callP P f [.sl b 1 0 zs.length cap] H K := by
  intro G w vs hs hv
  obtain ⟨v, rfl⟩ : ∃ v, vs = [v] := by
    have := hv.1
    cases vs with
    | nil => simp at this
    | cons v r => cases r with
      | nil => exact ⟨v, rfl⟩
      | cons _ _ => simp at this
  have hv0 := hv.2 0 _ v rfl rfl
  obtain ⟨ob, hob, ho⟩ := hs.own b _ hb
  cases ho with
  | rows _ _ arr T lo hi hsz hn hc hf hsh =>
    cases hv0 with
    | sl _ _ _ _ _ off n0 hl hoff hs0 hn0 =>
      have hnl : zs.length ≤ arr.size := by simpa using hn
      have hoff0 : zs ≠ [] → off = 0 := fun hz => by
        have : cap ≠ 0 := by
          intro e
          have : zs.length = 0 := by omega
          exact hz (List.length_eq_zero_iff.1 this)
        have := hoff this
        omega
      have hcell : ∀ j, j < zs.length → arr[j]? = some (Value.int .i64 (zs[j]!)) := by
        intro j hj
        have h1 : j < arr.size := by omega
        have h2 := hc j 0 (AVal.i (zs[j]!)) (arr[j]) (by
          unfold cellAt
          rw [List.getElem?_map, List.getElem?_eq_getElem hj]
          simp [AVal.cells, hj]) (by simp [h1])
        rw [Array.getElem?_eq_getElem h1, VRel.raw_inv h2]
      have hH : Holds (Value.int .i64) w b off zs.toArray := by
        intro j hj
        have hj' : j < zs.length := by simpa using hj
        have : off = 0 := hoff0 (fun e => by rw [e] at hj'; simp at hj')
        subst this
        refine ⟨?_, ?_⟩
        · simp only [World.cell?, hob, Nat.zero_add]
          have := hcell j hj'
          simpa [hj'] using this
        · simp only [World.frozen?, hob, Nat.zero_add]
          have := hf j (by omega)
          simpa using this
      refine (hk b off cap zs w hH (lt_of_heap hob) hlen).mono ?_
      rintro e w' ⟨rfl, n, os, rfl⟩
      generalize hS : (zs.mergeSort fun x y => decide (x ≤ y)) = S at hK ⊢
      have hSl : S.length = zs.length := by rw [← hS, List.length_mergeSort]
      have hheap : ∀ k, k < w.heap.size → (grow (putRow (Value.int .i64) (Sort.ahead w n) b off S.toArray) os).heap[k]? = if k = b then some (.cells (putCells (Value.int .i64) off S.toArray arr) T (lo, hi)) else w.heap[k]? := by
        intro k hk'
        have e1 : (grow (putRow (Value.int .i64) (Sort.ahead w n) b off S.toArray) os).heap[k]? = (putRow (Value.int .i64) (Sort.ahead w n) b off S.toArray).heap[k]? := by
          show ((putRow (Value.int .i64) (Sort.ahead w n) b off S.toArray).heap ++ os)[k]? = _
          rw [Array.getElem?_append_left]
          simpa using hk'
        rw [e1]
        show ((Sort.ahead w n).heap.modify b _)[k]? = _
        rw [Array.getElem?_modify]
        by_cases hkb : k = b
        · subst hkb
          rw [if_pos rfl, if_pos rfl]
          show Option.map _ w.heap[k]? = _
          rw [hob]
          rfl
        · rw [if_neg (fun e => hkb e.symm), if_neg hkb]
          rfl
      have hnew : ∀ (i : Nat), i < arr.size → (putCells (Value.int .i64) off S.toArray arr)[i]? = if off ≤ i ∧ i < off + S.length then some (Value.int .i64 (S[i - off]!)) else arr[i]? := by
        intro i hi'
        unfold putCells
        rw [Array.getElem?_mapIdx, Array.getElem?_eq_getElem hi']
        simp only [Option.map_some]
        have : S.toArray.size = S.length := by simp
        rw [this]
        split <;> simp
      have hsize : (putCells (Value.int .i64) off S.toArray arr).size = arr.size := by simp [putCells]
      refine ⟨_, G, .tup [], _, rfl, G.le_refl, ⟨fun c o e => ?_, fun c m e => ?_, fun c o e => ?_, fun c hc' => ?_, hs.nl⟩, .tup [] #[] rfl (fun i c v h _ => by simp at h), ⟨rfl, rfl, rfl, ?_, fun c hc' hn' => ?_, fun c hc' _ => ?_⟩, hK⟩
      · have h1 := hs.fz c o e
        rw [hheap c (lt_of_heap h1), if_neg (fun ec => ?_)]
        · exact h1
        · subst ec; have := hs.disj c (by simp [hb]); rw [this] at e; cases e
      · obtain ⟨arr', T', f', h1, h2⟩ := hs.sh c m e
        by_cases hcb : c = b
        · subst hcb
          rw [hob] at h1
          cases h1
          exact ⟨_, _, _, by rw [hheap c (lt_of_heap hob), if_pos rfl], by rw [hsize]; exact h2⟩
        · exact ⟨arr', T', f', by rw [hheap c (lt_of_heap h1), if_neg hcb]; exact h1, h2⟩
      · by_cases hcb : c = b
        · subst hcb
          simp only [AHeap.set, if_true] at e
          cases e
          refine ⟨_, by rw [hheap c (lt_of_heap hob), if_pos rfl], .rows 1 _ _ T lo hi (fun x hx => ?_) (by rw [hsize]; simp [hSl]; omega) (fun i j c' v' hcc hv' => ?_) (fun k hk' => ?_) (by rw [hsize]; exact hsh)⟩
          · obtain ⟨z, _, rfl⟩ := List.mem_map.1 hx; rfl
          · obtain ⟨x, h1, h2⟩ := cellAt_inv hcc
            rw [List.getElem?_map] at h1
            obtain ⟨z, h3, rfl⟩ := omap h1
            have hj : j = 0 := by
              have := lt_of_get? h2
              simp [AVal.cells] at this
              exact this
            subst hj
            simp [AVal.cells] at h2
            subst h2
            have hil := lt_of_get? h3
            have : off = 0 := hoff0 (fun e => by rw [e] at hSl; simp at hSl; rw [hSl] at hil; simp at hil)
            subst this
            rw [show i * 1 + 0 = i by omega, hnew i (by omega), if_pos ⟨Nat.zero_le _, by omega⟩] at hv'
            have hz : S[i - 0]! = z := by
              rw [Nat.sub_zero, getElem!_def, h3]
            rw [hz] at hv'
            cases hv'
            exact .raw _
          · exact hf k (by rw [hsize] at hk'; exact hk')
        · rw [AHeap.set_del hcb] at e
          obtain ⟨oc, h1, h2⟩ := hs.own c o e
          exact ⟨oc, by rw [hheap c (lt_of_heap h1), if_neg hcb]; exact h1, h2⟩
      · by_cases hcb : c = b
        · subst hcb; exact hs.disj c (by simp [hb])
        · rw [AHeap.set_del hcb] at hc'; exact hs.disj c hc'
      · show w.heap.size ≤ ((putRow (Value.int .i64) (Sort.ahead w n) b off S.toArray).heap ++ os).size
        simp [Sort.ahead]
      · rw [hheap c hc', if_neg (fun e => by subst e; rw [hb] at hn'; cases hn')]
      · by_cases hcb : c = b
        · subst hcb; simp [hb]
        · rw [AHeap.set_del hcb] at hc'; exact hc'


theorem callP_cap {P : Program} {f : FuncId} {b sz row len cap : Nat} {rest : List AVal} {H : AHeap} {K : AVal → AHeap → Prop} (h : len ≤ cap → callP P f (.sl b sz row len cap :: rest) H K) : callP P f (.sl b sz row len cap :: rest) H K := by
  intro G w vs hs hv
  have hcap : len ≤ cap := by
    have hl : 0 < vs.length := by rw [hv.1]; simp
    have := hv.2 0 _ vs[0] rfl (by simp [hl])
    generalize vs[0] = v at this
    cases this with
    | sl _ _ _ _ _ off n hl _ _ _ => exact hl
  exact h hcap G w vs hs hv

@[go_sem] theorem qSub_sl_lo {sz b row len cap : Nat} {l : Int} : qSub sz (.sl b sz row len cap) (some l) none none = if 0 ≤ l ∧ l ≤ len ∧ (len : Int) ≤ cap then some (.sl b sz (row + l.toNat) ((len : Int) - l).toNat ((cap : Int) - l).toNat) else none := by
  simp [qSub, aSub]
@[go_sem] theorem qSub_sl_hi {sz b row len cap : Nat} {h : Int} : qSub sz (.sl b sz row len cap) none (some h) none = if 0 ≤ h ∧ h ≤ (cap : Int) then some (.sl b sz row h.toNat cap) else none := by
  simp [qSub, aSub]
def clrsK (sz : Nat) (zero : AVal) (x : Option AVal) (K : AVal → AHeap → Prop) (H : AHeap) : Prop := match x with
    | some (.raw (.slice none 0 0)) => K (.tup []) H
    | some (.z) => K (.tup []) H
    | some (.sl b sz' row len _) => match H b with
      | some (.rows sz'' es) => sz = sz' ∧ sz = sz'' ∧ row + len ≤ es.length ∧ okEs [zero] ∧ K (.tup []) (H.set b (.rows sz (es.take row ++ List.replicate len zero ++ es.drop (row + len))))
      | _ => False
    | _ => False
@[go_sem] theorem step_clrs {P : Program} {K : AVal → AHeap → Prop} {R : Regs} {H : AHeap} {sz : Nat} {zero : AVal} {x : AX} : step P K R H (.clrs sz zero x) = clrsK sz zero (x.ev R) K H := nr rfl
theorem clrsK_sl {K : AVal → AHeap → Prop} {H : AHeap} {sz b row len cap : Nat} {zero : AVal} {es : List AVal} (hb : H b = some (.rows sz es)) (h1 : row + len ≤ es.length) (h2 : okEs [zero])
    (hk : K (.tup []) (H.set b (.rows sz (es.take row ++ List.replicate len zero ++ es.drop (row + len))))) : clrsK sz zero (some (.sl b sz row len cap)) K H := by
  simp only [clrsK, hb]
  exact ⟨trivial, trivial, h1, h2, hk⟩
@[congr] theorem clrsK_congr {K : AVal → AHeap → Prop} {H : AHeap} {sz : Nat} {zero : AVal} {x x' : Option AVal} (h : x = x') : clrsK sz zero x K H = clrsK sz zero x' K H := by rw [h]

theorem AHeap.set_same {H : AHeap} {b : Nat} {o : AObj} (h : H b = some o) : H.set b o = H := by
  funext c
  unfold AHeap.set
  by_cases hc : c = b
  · subst hc; simp [h]
  · simp [hc]
theorem AHeap.set_set {H : AHeap} {b : Nat} {o o' : AObj} : (H.set b o).set b o' = H.set b o' := by
  funext c
  unfold AHeap.set
  by_cases hc : c = b <;> simp [hc]
end Heron
end
