/- Addresses, slices, aggregates. The elements of a slice as they are read; bytes as a string; values built of parts. Values built of parts; bytes as a string; what a map holds. Bytes as a string; what a map holds. -/
import Derived.Test.YtaeanhonfoakeaaK2
import Derived.Laws.BytesString
section
set_option linter.unusedSimpArgs false
set_option linter.unusedVariables false
namespace Heron
open Go

theorem run_sureAddr {P : Program} {w : World} (a : Addr) : (Instr.sureAddr (.pointer (some a))).run P w = .ok a w := rfl

theorem aAddr_sound {G : Ghost} {p v : AVal} {off : Nat} {pv : Value} (h : aAddr off p = some v) (hp : VRel G p pv) :
    ∃ b o, pv = .pointer (some ⟨b, o, none⟩) ∧ VRel G v (.pointer (some ⟨b, o + off, none⟩)) := by
  cases p <;> simp only [aAddr] at h <;> try (cases h)
  · cases hp; exact ⟨_, _, rfl, by rw [Nat.add_assoc]; exact .ptr _ _ _ _⟩
  · rename_i e col
    cases hp with
    | rp _ _ b o he hh => exact ⟨_, _, rfl, by rw [Nat.add_assoc]; exact .rp e _ b o he hh⟩

theorem fieldAt_sound {P : Program} {G : Ghost} {w : World} {s : TypeId} {fields : Array Field} (hu : P.underlying s = some (.struct fields)) {i : Nat} {f : Field} (hf : fields[i]? = some f)
    {n : Nat} (hn : tySize P f.type = some n) (h0 : n ≠ 0) {p v : AVal} {pv : Value} (h : aAddr f.offset p = some v) (hp : VRel G p pv) : ∃ cv, (Instr.fieldAt s pv i).run P w = .ok cv w ∧ VRel G v cv := by
  obtain ⟨b, o, rfl, hv⟩ := aAddr_sound h hp
  refine ⟨_, ?_, hv⟩
  unfold Instr.fieldAt
  rw [run_ok (run_underlying hu w)]
  simp only [hf]
  rw [run_ok (run_sureAddr _)]
  have : (fieldPlace ⟨b, o, none⟩ f).run P w = .ok ⟨b, o + f.offset, none⟩ w := by
    unfold fieldPlace
    rw [run_ok (run_sizeOf hn w), if_neg h0, add_none]; rfl
  rw [run_ok this]; rfl

theorem aIndex_sound {P : Program} {G : Ghost} {w : World} {t e : TypeId} (hu : P.underlying t = some (.slice e)) {sz : Nat} (hn : tySize P e = some sz) {x v : AVal} {i : Int} {k : IntKind}
    {xv : Value} (h : aIndex sz x i = some v) (hx : VRel G x xv) : ∃ cv, (Instr.indexAt t xv (.int k i)).run P w = .ok cv w ∧ VRel G v cv := by
  unfold Instr.indexAt
  rw [run_ok (run_asIntOf k i)]
  simp only []
  rw [run_ok (run_underlying hu w)]
  cases x <;> simp only [aIndex] at h <;> try (cases h)
  · rename_i b sz' row len cap
    cases hx with
    | sl _ _ _ _ _ off n hl ho hs hn' =>
      split at h
      · rename_i hc
        obtain ⟨rfl, h0, hlt⟩ := hc
        cases h
        rw [run_ok (run_pure P _ w), run_ok (run_underlying hu w)]
        simp only [h0, hlt, and_self, if_true]
        rw [run_ok (run_sizeOf hn w)]
        refine ⟨_, rfl, ?_⟩
        rw [add_none, ho (by omega), ← Nat.add_mul, show (row + i.toNat) * sz = (row + i.toNat) * sz + 0 from rfl]
        exact .ptr _ _ _ _
      · cases h
  · rename_i b sz' row col len cap
    cases hx with
    | sc _ _ _ _ _ _ off hl ho =>
      split at h
      · rename_i hc
        obtain ⟨rfl, h0, hlt⟩ := hc
        cases h
        rw [run_ok (run_pure P _ w), run_ok (run_underlying hu w)]
        simp only [h0, hlt, and_self, if_true]
        rw [run_ok (run_sizeOf hn w)]
        refine ⟨_, rfl, ?_⟩
        rw [add_none, ho (by omega), Nat.mul_one, Nat.add_assoc]
        exact .ptr _ _ _ _
      · cases h
  · rename_i sz' es
    cases hx with
    | ro _ _ a cap hl hsz ha he h' =>
      split at h
      · rename_i hc
        obtain ⟨rfl, h0⟩ := hc
        cases hi : es[i.toNat]? with
        | none => simp [hi] at h
        | some c =>
          simp [hi] at h
          subst h
          have hlt := lt_of_get? hi
          obtain ⟨b, off, rfl⟩ := ha (by intro hnil; simp [hnil] at hlt)
          have hlt' : i < (es.length : Int) := by omega
          rw [run_ok (run_pure P _ w), run_ok (run_underlying hu w)]
          simp only [h0, hlt', and_self, if_true]
          rw [run_ok (run_sizeOf hn w)]
          refine ⟨_, rfl, ?_⟩
          rw [add_none]
          refine .rp c 0 b (off + i.toNat * sz) (fun j c' hc => ?_) (fun j c' u hc hu => ?_)
          · exact he b off rfl i.toNat j c' (cellAt_some hi hc)
          · exact h' b off rfl i.toNat j c' u (cellAt_some hi hc) hu
      · cases h

theorem iaa_sound {P : Program} {G : Ghost} {w : World} {t e : TypeId} {n : Nat} (hu : P.underlying t = some (.array n e)) {sz : Nat} (hn : tySize P e = some sz) {x v : AVal} {i : Int} {k : IntKind}
    {xv : Value} (h0 : 0 ≤ i) (h1 : i < n) (h : aAddr (i.toNat * sz) x = some v) (hx : VRel G x xv) : ∃ cv, (Instr.indexAt t xv (.int k i)).run P w = .ok cv w ∧ VRel G v cv := by
  obtain ⟨b, o, rfl, hv⟩ := aAddr_sound h hx
  unfold Instr.indexAt
  rw [run_ok (run_asIntOf k i)]
  simp only []
  rw [run_ok (run_underlying hu w)]
  simp only []
  rw [run_ok (run_sureAddr _), run_ok (run_pure P _ w), run_ok (run_underlying hu w)]
  simp only [h0, h1, and_self, if_true]
  rw [run_ok (run_sizeOf hn w)]
  exact ⟨_, rfl, by rw [add_none]; exact hv⟩

theorem aField_sound {P : Program} {G : Ghost} {w : World} {t : TypeId} {ag : Option Nat} (ht : tyAgg P t = some ag) {off : Nat} {x v : AVal} {xv : Value} (h : aField off ag x = some v) (hx : VRel G x xv) :
    ∃ cs, xv = .agg cs ∧ ∃ cv, (part t cs off).run P w = .ok cv w ∧ VRel G v cv := by
  obtain ⟨hag, hsz⟩ := run_isAgg ht w
  cases x <;> simp only [aField] at h <;> try (cases h)
  rename_i cs
  cases hx with
  | agg _ vs hn hh =>
    refine ⟨vs, rfl, ?_⟩
    unfold part
    rw [run_ok hag]
    cases ag with
    | none =>
      simp only [Option.isSome_none, Bool.false_eq_true, if_false]
      have hlt := lt_of_get? h
      have hv : vs[off]? = some (vs[off]'(by omega)) := by simp
      rw [hv]
      exact ⟨_, rfl, hh off v _ h hv⟩
    | some n =>
      simp only [Option.isSome_some, if_true]
      simp only at h
      split at h
      · rename_i hle
        cases h
        rw [run_ok (run_sizeOf (hsz n rfl) w)]
        refine ⟨_, rfl, .agg _ _ (by simp; omega) (fun i c u hc hu => ?_)⟩
        rw [List.getElem?_take] at hc
        split at hc
        · rename_i hi
          rw [List.getElem?_drop] at hc
          rw [Array.getElem?_extract] at hu
          split at hu
          · exact hh _ _ _ hc hu
          · cases hu
        · cases hc
      · cases h

/-! ### Slices of slices -/
theorem run_sliceBound {P : Program} {w : World} {k : IntKind} {i : Int} {y : Nat} {code : BoundsCode} (h0 : 0 ≤ i) (h1 : i ≤ y) : (Instr.sliceBound (.int k i) y code).run P w = .ok i.toNat w := by
  unfold Instr.sliceBound
  rw [run_ok (run_asIntOf k i)]
  simp [h0, h1, run_pure]

/-- The bounds of a slice expression, as values. -/
def bnd (o : Option Int) (v : Option Value) : Prop := match o, v with
  | none, none => True
  | some n, some x => ∃ k, x = .int k n
  | _, _ => False

theorem run_sliceBounds {P : Program} {w : World} {isSlice : Bool} {len cap : Nat} {lo hi mx : Option Int} {lv hv mv : Option Value} (hl : bnd lo lv) (hh : bnd hi hv) (hm : bnd mx mv)
    (hx : mx.isSome = true → hi.isSome = true)
    (h : 0 ≤ lo.getD 0 ∧ lo.getD 0 ≤ hi.getD len ∧ hi.getD len ≤ mx.getD cap ∧ mx.getD cap ≤ cap) :
    (Instr.sliceBounds isSlice len cap lv hv mv).run P w = .ok ((lo.getD 0).toNat, (hi.getD len).toNat, (mx.getD cap).toNat) w := by
  obtain ⟨h1, h2, h3, h4⟩ := h
  unfold Instr.sliceBounds
  cases mx with
  | none =>
    cases mv with
    | some _ => exact hm.elim
    | none =>
      rw [run_ok (run_pure P cap w)]
      cases hi with
      | none =>
        cases hv with
        | some _ => exact hh.elim
        | none =>
          rw [run_ok (run_pure P len w)]
          cases lo with
          | none => cases lv with
            | some _ => exact hl.elim
            | none => rw [run_ok (run_pure P 0 w)]; rfl
          | some l => cases lv with
            | none => exact hl.elim
            | some v => obtain ⟨k, rfl⟩ := hl; simp only [Option.getD_some, Option.getD_none] at h1 h2 h3 h4 ⊢; rw [run_ok (run_sliceBound h1 (by omega))]; rfl
      | some n =>
        cases hv with
        | none => exact hh.elim
        | some v =>
          obtain ⟨k, rfl⟩ := hh
          simp only [Option.getD_some, Option.getD_none] at h1 h2 h3 h4 ⊢
          rw [run_ok (run_sliceBound (by omega) (by omega))]
          cases lo with
          | none => cases lv with
            | some _ => exact hl.elim
            | none => rw [run_ok (run_pure P 0 w)]; rfl
          | some l => cases lv with
            | none => exact hl.elim
            | some v => obtain ⟨k', rfl⟩ := hl; simp only [Option.getD_some, Option.getD_none] at h1 h2 h3 h4 ⊢; rw [run_ok (run_sliceBound h1 (by omega))]; rfl
  | some m =>
    cases mv with
    | none => exact hm.elim
    | some v =>
      obtain ⟨k, rfl⟩ := hm
      cases hi with
      | none => simp at hx
      | some n =>
        cases hv with
        | none => exact hh.elim
        | some v =>
          obtain ⟨k', rfl⟩ := hh
          simp only [Option.getD_some, Option.getD_none] at h1 h2 h3 h4 ⊢
          rw [run_ok (run_sliceBound (by omega) (by omega)), run_ok (run_sliceBound (by omega) (by omega))]
          cases lo with
          | none => cases lv with
            | some _ => exact hl.elim
            | none => rw [run_ok (run_pure P 0 w)]; rfl
          | some l => cases lv with
            | none => exact hl.elim
            | some v => obtain ⟨k'', rfl⟩ := hl; simp only [Option.getD_some, Option.getD_none] at h1 h2 h3 h4 ⊢; rw [run_ok (run_sliceBound h1 (by omega))]; rfl

theorem run_slice {P : Program} {w : World} {t e : TypeId} (hu : P.underlying t = some (.slice e)) {sz : Nat} (hn : tySize P e = some sz) {lo hi mx : Option Int} {lv hv mv : Option Value}
    (hl : bnd lo lv) (hh : bnd hi hv) (hm : bnd mx mv) (hx : mx.isSome = true → hi.isSome = true) {a : Option Addr} {len cap : Nat}
    (hb : 0 ≤ lo.getD 0 ∧ lo.getD 0 ≤ hi.getD len ∧ hi.getD len ≤ mx.getD cap ∧ mx.getD cap ≤ cap) :
    (Instr.sliceAt t (.slice a len cap) lv hv mv).run P w =
      .ok (.slice (if (mx.getD cap).toNat = (lo.getD 0).toNat then a else a.map (·.add ((lo.getD 0).toNat * sz))) ((hi.getD len).toNat - (lo.getD 0).toNat) ((mx.getD cap).toNat - (lo.getD 0).toNat)) w := by
  unfold Instr.sliceAt
  rw [run_ok (run_underlying hu w)]
  simp only []
  unfold Instr.slice
  rw [run_ok (run_underlying hu w)]
  simp only []
  rw [run_ok (run_sliceBounds hl hh hm hx hb)]
  simp only []
  rw [run_ok (run_sizeOf hn w)]; rfl

theorem aSub_sl {G : Ghost} {b sz row len cap : Nat} {l h m : Int} {v : AVal} {a : Option Addr}
    (hv : VRel G (.sl b sz row len cap) (.slice a len cap)) (hs : aSub l h m (.sl b sz row len cap) = some v) :
    0 ≤ l ∧ l ≤ h ∧ h ≤ m ∧ m ≤ cap ∧ VRel G v (.slice (if m.toNat = l.toNat then a else a.map (·.add (l.toNat * sz))) (h.toNat - l.toNat) (m.toNat - l.toNat)) := by
  simp only [aSub] at hs
  split at hs
  · rename_i hc
    obtain ⟨h1, h2, h3, h4⟩ := hc
    cases hs
    refine ⟨h1, h2, h3, h4, ?_⟩
    cases hv with
    | sl _ _ _ _ _ off n hl ho hsh hn =>
      have e1 : (h - l).toNat = h.toNat - l.toNat := by omega
      have e2 : (m - l).toNat = m.toNat - l.toNat := by omega
      rw [e1, e2]
      have hle : (row + l.toNat + (m.toNat - l.toNat)) * sz ≤ n := Nat.le_trans (Nat.mul_le_mul_right sz (by omega)) hn
      split
      · rename_i he
        exact .sl b sz _ _ _ off n (by omega) (fun hc => by omega) hsh hle
      · rename_i he
        simp only [Option.map_some, add_none]
        exact .sl b sz _ _ _ _ n (by omega) (fun hc => by rw [ho (by omega), Nat.add_mul]) hsh hle
  · cases hs

theorem aSub_sc {G : Ghost} {b sz row col len cap : Nat} {l h m : Int} {v : AVal} {a : Option Addr}
    (hv : VRel G (.sc b sz row col len cap) (.slice a len cap)) (hs : aSub l h m (.sc b sz row col len cap) = some v) :
    0 ≤ l ∧ l ≤ h ∧ h ≤ m ∧ m ≤ cap ∧ VRel G v (.slice (if m.toNat = l.toNat then a else a.map (·.add (l.toNat * 1))) (h.toNat - l.toNat) (m.toNat - l.toNat)) := by
  simp only [aSub] at hs
  split at hs
  · rename_i hc
    obtain ⟨h1, h2, h3, h4⟩ := hc
    cases hs
    refine ⟨h1, h2, h3, h4, ?_⟩
    cases hv with
    | sc _ _ _ _ _ _ off hl ho =>
      have e1 : (h - l).toNat = h.toNat - l.toNat := by omega
      have e2 : (m - l).toNat = m.toNat - l.toNat := by omega
      rw [e1, e2]
      split
      · rename_i he
        exact .sc b sz row _ _ _ off (by omega) (fun hc => by omega)
      · rename_i he
        simp only [Option.map_some, add_none]
        exact .sc b sz row _ _ _ _ (by omega) (fun hc => by rw [ho (by omega)]; omega)
  · cases hs

theorem qSub_ro {G : Ghost} {sz : Nat} {es : List AVal} {cap : Nat} {l h : Int} {a : Option Addr} (hv : VRel G (.ro sz es) (.slice a es.length cap)) (h1 : 0 ≤ l) (h2 : l ≤ h) (h3 : h ≤ es.length) :
    VRel G (.ro sz ((es.take h.toNat).drop l.toNat)) (.slice (if cap = l.toNat then a else a.map (·.add (l.toNat * sz))) (h.toNat - l.toNat) (cap - l.toNat)) := by
  cases hv with
  | ro _ _ _ _ hl hsz ha he hh =>
    have hlen : ((es.take h.toNat).drop l.toNat).length = h.toNat - l.toNat := by simp; omega
    have hget : ∀ i j c, cellAt ((es.take h.toNat).drop l.toNat) i j = some c → cellAt es (l.toNat + i) j = some c := by
      intro i j c hc
      obtain ⟨e, h4, h5⟩ := cellAt_inv hc
      rw [List.getElem?_drop, List.getElem?_take] at h4
      split at h4
      · exact cellAt_some h4 h5
      · cases h4
    rw [← hlen]
    refine .ro sz _ _ _ (by rw [hlen]; omega) (fun e he' => hsz e (List.mem_of_mem_take (List.mem_of_mem_drop he'))) (fun hne => ?_) (fun b off eb i j c hc => ?_) (fun b off eb i j c v hc hv => ?_)
    · have hne' : es ≠ [] := by intro e; simp [e] at hne
      obtain ⟨b, off, rfl⟩ := ha hne'
      split
      · exact ⟨b, off, rfl⟩
      · exact ⟨b, off + l.toNat * sz, by simp [add_none]⟩
    · have hc' := hget i j c hc
      have hne' : es ≠ [] := by intro e; subst e; simp [cellAt] at hc'
      obtain ⟨b', off', rfl⟩ := ha hne'
      have hi : i < h.toNat - l.toNat := by obtain ⟨e, h4, h5⟩ := cellAt_inv hc; have := lt_of_get? h4; omega
      rw [if_neg (by omega)] at eb
      simp only [Option.map_some, add_none] at eb
      cases eb
      have := he _ _ rfl _ _ _ hc'
      rw [Nat.add_mul] at this
      rw [show off' + l.toNat * sz + i * sz + j = off' + (l.toNat * sz + i * sz) + j by omega]
      exact this
    · have hc' := hget i j c hc
      have hne' : es ≠ [] := by intro e; subst e; simp [cellAt] at hc'
      obtain ⟨b', off', rfl⟩ := ha hne'
      have hi : i < h.toNat - l.toNat := by obtain ⟨e, h4, h5⟩ := cellAt_inv hc; have := lt_of_get? h4; omega
      rw [if_neg (by omega)] at eb
      simp only [Option.map_some, add_none] at eb
      cases eb
      refine hh _ _ rfl (l.toNat + i) j c v hc' ?_
      rw [Nat.add_mul, show off' + (l.toNat * sz + i * sz) + j = off' + l.toNat * sz + i * sz + j by omega]
      exact hv

theorem qSub_sound {P : Program} {G : Ghost} {w : World} {t e : TypeId} (hu : P.underlying t = some (.slice e)) {sz : Nat} (hn : tySize P e = some sz) {lo hi mx : Option Int} {lv hv mv : Option Value}
    (hl : bnd lo lv) (hh : bnd hi hv) (hm : bnd mx mv) (hx : mx.isSome = true → hi.isSome = true) {x v : AVal} {xv : Value} (h : qSub sz x lo hi mx = some v) (hxv : VRel G x xv) :
    ∃ cv, (Instr.sliceAt t xv lv hv mv).run P w = .ok cv w ∧ VRel G v cv := by
  cases x with
  | ro sz' es =>
    simp only [qSub] at h
    split at h
    · rename_i hz
      subst hz
      have hxv' := hxv
      cases hxv with
      | ro _ _ a cap hlc hsz ha he hh' =>
        cases mx with
        | none =>
          simp only at h
          split at h
          · rename_i hc
            cases h
            have hb : 0 ≤ lo.getD 0 ∧ lo.getD 0 ≤ hi.getD es.length ∧ hi.getD es.length ≤ (none : Option Int).getD cap ∧ (none : Option Int).getD cap ≤ cap := ⟨hc.1, hc.2.1, by simp only [Option.getD_none]; omega, by simp⟩
            refine ⟨_, run_slice hu hn hl hh hm hx hb, ?_⟩
            simp only [Option.getD_none, Int.toNat_natCast]
            exact qSub_ro hxv' hc.1 hc.2.1 hc.2.2
          · cases h
        | some m =>
          simp only at h
          split at h
          · rename_i hc
            cases h
            have hb : 0 ≤ lo.getD 0 ∧ lo.getD 0 ≤ hi.getD es.length ∧ hi.getD es.length ≤ (some m).getD cap ∧ (some m).getD cap ≤ cap := by simp only [Option.getD_some]; omega
            refine ⟨_, run_slice hu hn hl hh hm hx hb, ?_⟩
            rw [hc.1, hc.2.1]
            simp only [Option.getD_some, hc.2.2]
            exact .z _
          · cases h
    · cases h
  | sl b sz' row len cap =>
    simp only [qSub] at h
    split at h
    · rename_i hz
      subst hz
      have hxv' := hxv
      cases hxv with
      | sl _ _ _ _ _ off n hlc ho hsh hnn =>
        obtain ⟨h1, h2, h3, h4, h5⟩ := aSub_sl hxv' h
        exact ⟨_, run_slice hu hn hl hh hm hx ⟨h1, h2, h3, h4⟩, h5⟩
    · cases h
  | sc b sz' row col len cap =>
    simp only [qSub] at h
    split at h
    · rename_i hz
      subst hz
      have hxv' := hxv
      cases hxv with
      | sc _ _ _ _ _ _ off hlc ho =>
        obtain ⟨h1, h2, h3, h4, h5⟩ := aSub_sc hxv' h
        exact ⟨_, run_slice hu hn hl hh hm hx ⟨h1, h2, h3, h4⟩, h5⟩
    · cases h
  | raw u =>
    rw [VRel.raw_inv hxv]
    unfold qSub at h
    split at h
    · rename_i heq; cases heq
    · rename_i heq; cases heq
    · rename_i heq; cases heq
    · rename_i heq
      cases heq
      split at h
      · rename_i hc
        cases h
        refine ⟨_, run_slice hu hn hl hh hm hx (by simp only [Int.natCast_zero]; omega), ?_⟩
        simp only [Int.natCast_zero, hc.1, hc.2.1, hc.2.2, if_true]
        exact .raw _
      · cases h
    · rename_i heq; cases heq
    · cases h
  | z =>
    cases hxv with
    | z a =>
      simp only [qSub] at h
      split at h
      · rename_i hc
        cases h
        refine ⟨_, run_slice hu hn hl hh hm hx (by simp only [Int.natCast_zero]; omega), ?_⟩
        simp only [Int.natCast_zero, hc.1, hc.2.1, hc.2.2, if_true]
        exact .z _
      · cases h
  | _ => simp [qSub] at h

end Heron
end

section
set_option linter.unusedSimpArgs false
set_option linter.unusedVariables false
namespace Heron
open Go

/-- So many cells stand for so many elements. -/
def Lay (G : Ghost) (sz n : Nat) (es : List AVal) (arr : Array Value) : Prop :=
  arr.size = n * sz ∧ ∀ i j c v, i < n → cellAt es i j = some c → arr[i * sz + j]? = some v → VRel G c v

theorem div_mod_idx {i j sz : Nat} (hj : j < sz) : (i * sz + j) / sz = i ∧ (i * sz + j) % sz = j := by
  have h0 : 0 < sz := by omega
  constructor
  · rw [Nat.mul_comm, Nat.mul_add_div h0, Nat.div_eq_of_lt hj, Nat.add_zero]
  · rw [Nat.mul_comm, Nat.mul_add_mod, Nat.mod_eq_of_lt hj]

theorem lay_of_cells {P : Program} {G : Ghost} {w : World} {sz n : Nat} (h0 : 0 < sz) {es : List AVal} (hsz : ∀ e, e ∈ es → e.cells.length = sz) (hn : n ≤ es.length) {b off : Nat}
    (hc : ∀ i j c, i < n → cellAt es i j = some c → ∃ v, w.cell? ⟨b, off + (i * sz + j), none⟩ = some v ∧ VRel G c v) :
    ∃ arr, (loadCells ⟨b, off, none⟩ (n * sz)).run P w = .ok arr w ∧ Lay G sz n es arr := by
  have key : ∀ k, k < n * sz → ∃ v, w.cell? ⟨b, off + k, none⟩ = some v ∧ ∀ c, cellAt es (k / sz) (k % sz) = some c → VRel G c v := by
    intro k hk
    have hi : k / sz < n := (Nat.div_lt_iff_lt_mul h0).2 hk
    have hj : k % sz < sz := Nat.mod_lt _ h0
    have he : es[k / sz]? = some (es[k / sz]'(by omega)) := by simp
    have hl := hsz _ (List.mem_of_getElem? he)
    have hcell : (es[k / sz]'(by omega)).cells[k % sz]? = some ((es[k / sz]'(by omega)).cells[k % sz]'(by omega)) := by simp
    obtain ⟨v, h1, h2⟩ := hc _ _ _ hi (cellAt_some he hcell)
    refine ⟨v, by rw [show k = k / sz * sz + k % sz by rw [Nat.mul_comm]; exact (Nat.div_add_mod k sz).symm]; exact h1, fun c hc' => ?_⟩
    rw [cellAt_some he hcell] at hc'
    cases hc'
    exact h2
  obtain ⟨f, hf⟩ := choose_vals key
  refine ⟨_, run_loadCells f (n * sz) fun k hk => (hf k hk).1, by simp, fun i j c v hi hcc hv => ?_⟩
  obtain ⟨e, he, hj⟩ := cellAt_inv hcc
  have hj' := lt_of_get? hj
  rw [hsz e (List.mem_of_getElem? he)] at hj'
  have hk := idx_lt hi hj'
  simp [hk] at hv
  subst hv
  obtain ⟨d1, d2⟩ := div_mod_idx (i := i) hj'
  exact (hf _ hk).2 c (by rw [d1, d2]; exact hcc)

theorem ro_cells {G : Ghost} {H : AHeap} {w : World} (hs : St G H w) {sz : Nat} {es : List AVal} {a : Option Addr} {cap : Nat} (hv : VRel G (.ro sz es) (.slice a es.length cap)) :
    ∀ b off, a = some ⟨b, off, none⟩ → ∀ i j c, cellAt es i j = some c → ∃ v, w.cell? ⟨b, off + (i * sz + j), none⟩ = some v ∧ VRel G c v := by
  cases hv with
  | ro _ _ _ _ hl hsz ha he hh =>
    intro b off e i j c hc
    obtain ⟨v, hv⟩ := Option.isSome_iff_exists.1 (he b off e i j c hc)
    exact ⟨v, by rw [← Nat.add_assoc]; exact fz_cell hs hv, hh b off e i j c v hc hv⟩

theorem elems_sound {P : Program} {G : Ghost} {H : AHeap} {w : World} (hs : St G H w) {sz : Nat} (h0 : 0 < sz) {x : AVal} {es : List AVal} {xv : Value} (h : aElems H sz x = some es) (hx : VRel G x xv) :
    (∀ e, e ∈ es → e.cells.length = sz) ∧ (Builtin.lenOf xv).run P w = .ok es.length w ∧ ∀ n, n ≤ es.length → ∃ arr, (Builtin.firstCells sz n xv).run P w = .ok arr w ∧ Lay G sz n es arr := by
  cases x with
  | ro sz' es' =>
    simp only [aElems] at h
    split at h
    · rename_i hz
      subst hz
      cases h
      have hx' := hx
      cases hx with
      | ro _ _ a cap hl hsz ha he hh =>
        refine ⟨hsz, rfl, fun n hn => ?_⟩
        cases n with
        | zero =>
          cases a with
          | none => exact ⟨#[], rfl, by simp, fun i j c v hi => absurd hi (by omega)⟩
          | some ad => exact ⟨#[], by simp [Builtin.firstCells, loadCells, loadCellsFrom, run_pure], by simp, fun i j c v hi => absurd hi (by omega)⟩
        | succ n =>
          have hne : es ≠ [] := by intro e; simp [e] at hn
          obtain ⟨b, off, rfl⟩ := ha hne
          exact lay_of_cells h0 hsz hn (fun i j c hi hc => ro_cells hs hx' b off rfl i j c hc)
    · cases h
  | sl b sz' row len cap =>
    simp only [aElems] at h
    split at h
    · rename_i sz'' es' hb
      split at h
      · rename_i hc
        obtain ⟨rfl, rfl, hle⟩ := hc
        cases h
        have hsz : ∀ e, e ∈ es' → e.cells.length = sz := by
          obtain ⟨ob, hob, hr⟩ := hs.own b _ hb
          cases hr with
          | rows _ _ arr T lo hi hsz hn h hf hsh => exact hsz
        cases hx with
        | sl _ _ _ _ _ off n hl ho hsh hn =>
          have hlen : ((es'.drop row).take len).length = len := by simp; omega
          refine ⟨fun e he => hsz e (List.mem_of_mem_drop (List.mem_of_mem_take he)), by rw [hlen]; rfl, fun n hn' => ?_⟩
          rw [hlen] at hn'
          cases n with
          | zero => exact ⟨#[], by simp [Builtin.firstCells, loadCells, loadCellsFrom, run_pure], by simp, fun i j c v hi => absurd hi (by omega)⟩
          | succ n =>
            have hoff := ho (by omega)
            subst hoff
            refine lay_of_cells h0 (fun e he => hsz e (List.mem_of_mem_drop (List.mem_of_mem_take he))) (by rw [hlen]; exact hn') (fun i j c hi hc => ?_)
            obtain ⟨e, he, hj⟩ := cellAt_inv hc
            rw [List.getElem?_take, if_pos (by omega), List.getElem?_drop] at he
            obtain ⟨v, h1, h2⟩ := own_cell hs hb (cellAt_some he hj)
            refine ⟨v, ?_, h2⟩
            rw [Nat.add_mul] at h1
            rw [← Nat.add_assoc]
            exact h1
      · cases h
    · cases h
  | sc b sz' row col len cap =>
    simp only [aElems] at h
    split at h
    · rename_i sz'' es' hb
      split at h
      · rename_i hc
        obtain ⟨rfl, rfl⟩ := hc
        cases he : es'[row]? with
        | none => simp [he] at h
        | some e =>
          simp only [he, Option.bind_some] at h
          split at h
          · rename_i hcc
            obtain ⟨hle, hall⟩ := hcc
            cases h
            rw [List.all_eq_true] at hall
            have hlen : ((e.cells.drop col).take len).length = len := by simp; omega
            have hflat : ∀ c, c ∈ (e.cells.drop col).take len → c.cells = [c] := fun c hc => by
              have := hall c hc
              unfold AVal.flat at this; unfold AVal.cells; split at this <;> simp_all
            have hone : ∀ c, c ∈ (e.cells.drop col).take len → c.cells.length = 1 := fun c hc => by rw [hflat c hc]; rfl
            cases hx with
            | sc _ _ _ _ _ _ off hl ho =>
              refine ⟨hone, by rw [hlen]; rfl, fun n hn' => ?_⟩
              rw [hlen] at hn'
              cases n with
              | zero => exact ⟨#[], by simp [Builtin.firstCells, loadCells, loadCellsFrom, run_pure], by simp, fun i j c v hi => absurd hi (by omega)⟩
              | succ n =>
                have hoff := ho (by omega)
                subst hoff
                refine lay_of_cells h0 hone (by rw [hlen]; exact hn') (fun i j c hi hc => ?_)
                obtain ⟨e', he', hj⟩ := cellAt_inv hc
                have hj' := lt_of_get? hj
                rw [hone e' (List.mem_of_getElem? he')] at hj'
                have hj0 : j = 0 := by omega
                subst hj0
                have hee := hflat e' (List.mem_of_getElem? he')
                rw [List.getElem?_take, if_pos (by omega), List.getElem?_drop] at he'
                obtain ⟨v, h1, h2⟩ := own_cell hs hb (cellAt_some he he')
                rw [hee] at hj
                simp at hj
                subst hj
                exact ⟨v, by rw [Nat.mul_one, Nat.add_zero, Nat.add_assoc]; exact h1, h2⟩
          · cases h
      · cases h
    · cases h
  | z =>
    simp only [aElems] at h
    cases h
    cases hx with
    | z a =>
      refine ⟨fun e he => by simp at he, rfl, fun n hn => ?_⟩
      have : n = 0 := by simpa using hn
      subst this
      cases a with
      | none => exact ⟨#[], rfl, by simp, fun i j c v hi => absurd hi (by omega)⟩
      | some ad => exact ⟨#[], by simp [Builtin.firstCells, loadCells, loadCellsFrom, run_pure], by simp, fun i j c v hi => absurd hi (by omega)⟩
  | raw u =>
    rw [VRel.raw_inv hx]
    unfold aElems at h
    split at h
    · rename_i heq
      cases heq
      cases h
      refine ⟨fun e he => by simp at he, rfl, fun n hn => ?_⟩
      have : n = 0 := by simpa using hn
      subst this
      exact ⟨#[], rfl, by simp, fun i j c v hi => absurd hi (by omega)⟩
    · rename_i heq; cases heq
    · rename_i heq; cases heq
    · rename_i heq; cases heq
    · rename_i heq; cases heq
    · rename_i s heq
      cases heq
      split at h
      · rename_i hz
        subst hz
        cases h
        refine ⟨fun e he => ?_, by simp [Builtin.lenOf, run_pure], fun n hn => ⟨_, rfl, ?_, fun i j c v hi hc hv => ?_⟩⟩
        · rw [List.mem_map] at he
          obtain ⟨c, _, rfl⟩ := he
          rfl
        · simp at hn
          simp [ByteArray.data_extract]
          omega
        · obtain ⟨e, he, hj⟩ := cellAt_inv hc
          rw [List.getElem?_map] at he
          cases hb : s.data.toList[i]? with
          | none => simp [hb] at he
          | some u =>
            simp [hb] at he
            subst he
            have hj' := lt_of_get? hj
            simp [AVal.cells] at hj'
            subst hj'
            simp [AVal.cells] at hj
            subst hj
            rw [Nat.mul_one, Nat.add_zero, Array.getElem?_map, ByteArray.data_extract, Array.getElem?_extract] at hv
            split at hv
            · rw [Array.getElem?_toList] at hb
              rw [Nat.zero_add, hb] at hv
              simp at hv
              subst hv
              exact .raw _
            · simp at hv
      · cases h
    · cases h
  | _ => simp [aElems] at h

end Heron
end

section
set_option linter.unusedSimpArgs false
set_option linter.unusedVariables false
namespace Heron
open Go

/-- A row of cells that is known so far. -/
def CRel (G : Ghost) (cs : List AVal) (arr : Array Value) : Prop := arr.size = cs.length ∧ ∀ (i : Nat) (c : AVal) (v : Value), cs[i]? = some c → arr[i]? = some v → VRel G c v

theorem crel_one {G : Ghost} {a : AVal} {v : Value} (h : VRel G a v) : CRel G [a] #[v] := by
  refine ⟨rfl, fun i c u hc hu => ?_⟩
  cases i with
  | zero => simp at hc hu; subst hc; subst hu; exact h
  | succ i => simp at hc

theorem cells_rel {G : Ghost} {a : AVal} {v : Value} (h : VRel G a v) : CRel G a.cells v.cells := by
  cases a with
  | raw u =>
    rw [VRel.raw_inv h]
    cases u with
    | agg vs =>
      refine ⟨by simp [AVal.cells, Value.cells], fun i c w hc hw => ?_⟩
      simp only [AVal.cells, Value.cells] at hc hw
      rw [List.getElem?_map, Array.getElem?_toList, hw] at hc
      cases hc
      exact .raw _
    | _ => exact crel_one (.raw _)
  | agg cs => cases h with | agg _ vs hn hh => exact ⟨hn, hh⟩
  | junk => cases h with | junk v hv => rw [hv]; exact crel_one (.junk v hv)
  | ptr => have h' := h; cases h; exact crel_one h'
  | sl => have h' := h; cases h; exact crel_one h'
  | sc => have h' := h; cases h; exact crel_one h'
  | ro => have h' := h; cases h; exact crel_one h'
  | rp => have h' := h; cases h; exact crel_one h'
  | tup => have h' := h; cases h; exact crel_one h'
  | fn => have h' := h; cases h; exact crel_one h'
  | mp => have h' := h; cases h; exact crel_one h'
  | it => have h' := h; cases h; exact crel_one h'
  | yd => have h' := h; cases h; exact crel_one h'
  | z => have h' := h; cases h; exact crel_one h'

theorem agg_of_crel {G : Ghost} {cs : List AVal} {arr : Array Value} (h : CRel G cs arr) : VRel G (.agg cs) (.agg arr) := .agg cs arr h.1 h.2

/-! ### Cells laid into cells -/
theorem foldl_put (off : Nat) : ∀ (vs : List Value) (s : Nat) (arr : Array Value) (k : Nat), ((vs.zipIdx s).foldl (fun cs (p : Value × Nat) => cs.setIfInBounds (off + p.2) p.1) arr)[k]? =
    if off + s ≤ k ∧ k < off + s + vs.length ∧ k < arr.size then vs[k - (off + s)]? else arr[k]?
  | [], s, arr, k => by simp; intro a b; omega
  | v :: vs, s, arr, k => by
    rw [List.zipIdx_cons, List.foldl_cons, foldl_put off vs (s + 1)]
    simp only [Array.size_setIfInBounds, List.length_cons]
    by_cases hk : off + s = k
    · subst hk
      rw [if_neg (by omega)]
      by_cases hlt : off + s < arr.size
      · simp [hlt]
      · rw [if_neg (by omega), Array.getElem?_setIfInBounds]
        simp [hlt]
    · rw [Array.getElem?_setIfInBounds_ne hk]
      by_cases hc : off + (s + 1) ≤ k ∧ k < off + (s + 1) + vs.length ∧ k < arr.size
      · rw [if_pos hc, if_pos (by omega), show k - (off + s) = (k - (off + (s + 1))) + 1 by omega]
        rfl
      · rw [if_neg hc, if_neg (by omega)]

theorem foldl_put_size (off : Nat) : ∀ (vs : List Value) (s : Nat) (arr : Array Value), ((vs.zipIdx s).foldl (fun cs (p : Value × Nat) => cs.setIfInBounds (off + p.2) p.1) arr).size = arr.size
  | [], s, arr => rfl
  | v :: vs, s, arr => by rw [List.zipIdx_cons, List.foldl_cons, foldl_put_size off vs (s + 1)]; simp

theorem setAt_get {cs vs : List AVal} {off k : Nat} (h : off + vs.length ≤ cs.length) : (setAt cs off vs)[k]? = if off ≤ k ∧ k < off + vs.length then vs[k - off]? else cs[k]? := by
  unfold setAt
  by_cases h1 : k < off
  · rw [if_neg (by omega), List.append_assoc, List.getElem?_append_left (by simp; omega), List.getElem?_take, if_pos h1]
  · by_cases h2 : k < off + vs.length
    · rw [if_pos (by omega), List.getElem?_append_left (by simp; omega), List.getElem?_append_right (by simp; omega)]
      simp
      rw [Nat.min_eq_left (by omega)]
    · rw [if_neg (by omega), List.getElem?_append_right (by simp; omega), List.getElem?_drop]
      congr 1
      simp
      omega

theorem setAt_length {cs vs : List AVal} {off : Nat} (h : off + vs.length ≤ cs.length) : (setAt cs off vs).length = cs.length := by
  unfold setAt; simp; omega

theorem crel_put {G : Ghost} {cs vs : List AVal} {arr : Array Value} {us : Array Value} {off : Nat} (h : CRel G cs arr) (hv : CRel G vs us) (hle : off + vs.length ≤ cs.length) :
    CRel G (setAt cs off vs) (us.zipIdx.foldl (fun cs (p : Value × Nat) => cs.setIfInBounds (off + p.2) p.1) arr) := by
  rw [← Array.foldl_toList, Array.toList_zipIdx]
  refine ⟨by rw [foldl_put_size, setAt_length hle]; exact h.1, fun i c v hc hcv => ?_⟩
  rw [setAt_get hle] at hc
  rw [foldl_put] at hcv
  simp only [Nat.add_zero, Array.length_toList, hv.1] at hcv
  have := h.1
  split at hc
  · rename_i hi
    rw [if_pos (by omega)] at hcv
    exact hv.2 _ _ _ hc (by simpa using hcv)
  · rename_i hi
    rw [if_neg (by omega)] at hcv
    exact h.2 _ _ _ hc hcv

/-- The parts of an aggregate or a row, where each goes. -/
theorem fill_sound {P : Program} {G : Ghost} {place : Nat → Option (Nat × Nat)} : ∀ {parts : List (Nat × Value)} {aparts : List (Nat × Nat × Option AVal)} {cs cs' : List AVal} {arr : Array Value},
    CRel G cs arr → parts.length = aparts.length →
    (∀ (k i off n : Nat) (v : Value) (o : Option AVal), parts[k]? = some (i, v) → aparts[k]? = some (off, n, o) → place i = some (off, n) ∧ ∀ a, o = some a → VRel G a v) →
    fillA cs aparts = some cs' → ∃ arr', Instr.fill place arr parts = some arr' ∧ CRel G cs' arr'
  | [], [], cs, cs', arr, h, _, _, hf => by cases hf; exact ⟨arr, rfl, h⟩
  | (i, v) :: parts, (off, n, o) :: aparts, cs, cs', arr, h, hl, hp, hf => by
    obtain ⟨h1, h2⟩ := hp 0 i off n v o rfl rfl
    cases o with
    | none => simp [fillA] at hf
    | some a =>
      simp only [fillA] at hf
      split at hf
      · rename_i hc
        have hv := cells_rel (h2 a rfl)
        have hput := crel_put (off := off) h hv (by omega)
        obtain ⟨arr', e, hr⟩ := fill_sound (P := P) (place := place) hput (by simpa using hl) (fun k i off n v o a b => hp (k + 1) i off n v o a b) hf
        refine ⟨arr', ?_, hr⟩
        unfold Instr.fill
        have := h.1
        have := hv.1
        rw [h1]
        simp only []
        rw [if_neg (by simp; omega)]
        exact e
      · cases hf

theorem run_mapM_places {P : Program} {w : World} : ∀ {fields : List Field}, (∀ f, f ∈ fields → (tySize P f.type).isSome = true) →
    (fields.mapM (fun f : Field => (do pure (f.offset, ← Go.sizeOf f.type) : Sem (Nat × Nat)))).run P w = .ok (fields.map fun f => (f.offset, (tySize P f.type).getD 0)) w
  | [], _ => rfl
  | f :: fs, h => by
    obtain ⟨n, hn⟩ := Option.isSome_iff_exists.1 (h f (by simp))
    rw [List.mapM_cons, run_bind, run_ok (run_sizeOf hn w), run_pure]
    simp only []
    rw [run_ok (run_mapM_places fun f hf => h f (List.mem_cons_of_mem _ hf)), run_pure]
    simp [hn]

theorem tyZero_run {P : Program} {w : World} {t : TypeId} {zv : AVal} (h : tyZero P t = some zv) : ∃ v, (zeroValue t).run P w = .ok v w ∧ zv = .ofValue v := by
  unfold tyZero at h
  cases hi : P.info? t with
  | none => simp [hi] at h
  | some i =>
    cases hz : i.zero with
    | none => simp [hi, hz] at h
    | some v =>
      simp [hi, hz] at h
      refine ⟨v, ?_, h.symm⟩
      unfold zeroValue
      rw [run_ok (run_typeInfo hi w), hz]; rfl

theorem mapM_some_get {α β : Type} {f : α → Option β} : ∀ {l : List α} {m : List β}, l.mapM f = some m → m.length = l.length ∧ ∀ (k : Nat) (x : α), l[k]? = some x → ∃ y, m[k]? = some y ∧ f x = some y
  | [], m, h => by simp at h; subst h; exact ⟨rfl, fun k x hx => by simp at hx⟩
  | a :: l, m, h => by
    rw [List.mapM_cons] at h
    cases ha : f a with
    | none => simp [ha] at h
    | some b =>
      cases hl : l.mapM f with
      | none => simp [ha, hl] at h
      | some r =>
        simp [ha, hl] at h
        subst h
        obtain ⟨h1, h2⟩ := mapM_some_get hl
        refine ⟨by simp [h1], fun k x hx => ?_⟩
        cases k with
        | zero => simp at hx; subst hx; exact ⟨b, rfl, ha⟩
        | succ k => simp at hx; exact h2 k x hx

theorem build_sound {P : Program} {G : Ghost} {w : World} {R : Regs} {a : Act} (hr : RRel G R a.tmps) {t : TypeId} {parts : Array (Nat × Operand)} {aparts : List (Nat × Nat × AX)} {zv : AVal} {cs : List AVal}
    (hg : genParts P t parts = some aparts) (hz : tyZero P t = some zv) (hok : buildOk P t = true)
    (hf : fillA zv.cells (aparts.map fun p => (p.1, p.2.1, p.2.2.ev R)) = some cs) :
    ∃ v, (Instr.build t (parts.map fun (i, x) => (i, a.eval x))).run P w = .ok v w ∧ VRel G (.agg cs) v := by
  obtain ⟨z0, hz0, rfl⟩ := tyZero_run (w := w) hz
  have hzc := cells_rel (vrel_ofValue G z0)
  unfold genParts at hg
  unfold buildOk at hok
  cases hu : P.underlying t with
  | none => simp [hu] at hg
  | some d =>
    rw [hu] at hg hok
    cases d <;> simp only [Option.bind_eq_bind, Option.bind_some, bind, Option.bind] at hg <;> try (cases hg)
    · -- an array
      rename_i len elem
      cases hs : tySize P elem with
      | none => simp [hs] at hg
      | some sz =>
        simp only [hs, Option.bind_some] at hg
        obtain ⟨h1, h2⟩ := mapM_some_get hg
        obtain ⟨arr, e, hc⟩ := fill_sound (P := P) (place := fun i => some (i * sz, sz)) (parts := (parts.map fun (i, x) => (i, a.eval x)).toList) hzc (by simp [h1]) (fun k i off n v o hk ho => by
          simp only [Array.toList_map, List.getElem?_map] at hk ho
          cases hp : parts.toList[k]? with
          | none => simp [hp] at hk
          | some p =>
            obtain ⟨y, hy, hfy⟩ := h2 k p hp
            simp [hp] at hk
            simp [hy] at ho
            simp at hfy
            subst hfy
            obtain ⟨rfl, rfl⟩ := hk
            obtain ⟨rfl, rfl, rfl⟩ := ho
            exact ⟨rfl, fun a' ha' => ev_sound hr ha'⟩) hf
        refine ⟨.agg arr, ?_, agg_of_crel hc⟩
        unfold Instr.build
        rw [run_ok hz0, run_ok (run_underlying hu w)]
        simp only []
        rw [run_ok (run_sizeOf hs w), e]; rfl
    · rename_i fields
      obtain ⟨h1, h2⟩ := mapM_some_get hg
      have hall : ∀ f, f ∈ fields.toList → (tySize P f.type).isSome = true := fun f hf => by
        rw [Array.all_eq_true] at hok
        obtain ⟨i, hi, rfl⟩ := Array.mem_iff_getElem.1 (Array.mem_toList_iff.1 hf)
        exact hok i hi
      obtain ⟨arr, e, hc⟩ := fill_sound (P := P) (place := ((fields.map fun f => (f.offset, (tySize P f.type).getD 0))[·]?)) (parts := (parts.map fun (i, x) => (i, a.eval x)).toList) hzc (by simp [h1]) (fun k i off n v o hk ho => by
          simp only [Array.toList_map, List.getElem?_map] at hk ho
          cases hp : parts.toList[k]? with
          | none => simp [hp] at hk
          | some p =>
            obtain ⟨y, hy, hfy⟩ := h2 k p hp
            simp [hp] at hk
            simp [hy] at ho
            obtain ⟨rfl, rfl⟩ := hk
            obtain ⟨rfl, rfl, rfl⟩ := ho
            cases hff : fields[p.1]? with
            | none => simp [hff] at hfy
            | some f =>
              cases hsf : tySize P f.type with
              | none => simp [hff, hsf] at hfy
              | some n' =>
                simp [hff, hsf] at hfy
                subst hfy
                exact ⟨by simp [hff, hsf], fun a' ha' => ev_sound hr ha'⟩) hf
      refine ⟨.agg arr, ?_, agg_of_crel hc⟩
      unfold Instr.build
      rw [run_ok hz0, run_ok (run_underlying hu w)]
      simp only []
      have hm : (fields.mapM (fun f : Field => (do pure (f.offset, ← Go.sizeOf f.type) : Sem (Nat × Nat)))).run P w = .ok (fields.map fun f => (f.offset, (tySize P f.type).getD 0)) w := by
        rw [Array.mapM_eq_mapM_toList]
        rw [show (List.toArray <$> fields.toList.mapM (fun f : Field => (do pure (f.offset, ← Go.sizeOf f.type) : Sem (Nat × Nat)))) = (fields.toList.mapM (fun f : Field => (do pure (f.offset, ← Go.sizeOf f.type) : Sem (Nat × Nat)))) >>= fun x => pure x.toArray from rfl]
        rw [run_ok (run_mapM_places hall), run_pure]
        apply congrArg (fun x => Result.ok x w)
        apply Array.ext'
        simp
      rw [run_ok hm, e]; rfl

end Heron
end

section
set_option linter.unusedSimpArgs false
set_option linter.unusedVariables false
namespace Heron
open Go

theorem byteOf_inv {a : AVal} {c : UInt8} (h : byteOf a = some c) : ∃ n, a = .raw (.int .u8 n) ∧ c = UInt8.ofNat n.toNat := by
  cases a with
  | raw v =>
    cases v with
    | int k n => cases k <;> simp [byteOf] at h; exact ⟨n, rfl, h.symm⟩
    | _ => simp [byteOf] at h
  | _ => simp [byteOf] at h

theorem bytesOf_inv : ∀ {es : List AVal} {l : List UInt8}, bytesOf es = some l → ∃ ns : List Int, es = ns.map (fun n => .raw (.int .u8 n)) ∧ l = ns.map (fun n => UInt8.ofNat n.toNat)
  | [], l, h => by cases h; exact ⟨[], rfl, rfl⟩
  | e :: es, l, h => by
    simp only [bytesOf] at h
    split at h
    · rename_i c m hc hm
      cases h
      obtain ⟨n, rfl, rfl⟩ := byteOf_inv hc
      obtain ⟨ns, rfl, rfl⟩ := bytesOf_inv hm
      exact ⟨n :: ns, rfl, rfl⟩
    · cases h

theorem foldl_push : ∀ (ns : List Int) (s : ByteArray), ns.foldl (fun r n => r.push (UInt8.ofNat n.toNat)) s = ⟨s.data ++ (ns.map fun n => UInt8.ofNat n.toNat).toArray⟩
  | [], s => by simp
  | n :: ns, s => by
    rw [List.foldl_cons, foldl_push ns]
    cases s
    simp [ByteArray.push]

theorem b2s_sound {P : Program} {G : Ghost} {H : AHeap} {w : World} (hs : St G H w) {x : AVal} {es : List AVal} {l : List UInt8} {xv : Value} (hn : isStr x = false) (h : aElems H 1 x = some es) (hb : bytesOf es = some l)
    (hx : VRel G x xv) : (Conv.bytesToString xv).run P w = .ok (.string ⟨l.toArray⟩) w ∧ ∃ a n c, xv = .slice a n c := by
  obtain ⟨h1, h2, h3⟩ := elems_sound (P := P) hs (by decide) h hx
  have hsl : ∃ a n c, xv = .slice a n c := by
    cases x with
    | raw u =>
      rw [VRel.raw_inv hx]
      cases u <;> simp [aElems] at h
      · simp [isStr] at hn
      · exact ⟨_, _, _, rfl⟩
    | ro => cases hx; exact ⟨_, _, _, rfl⟩
    | sl => cases hx; exact ⟨_, _, _, rfl⟩
    | sc => cases hx; exact ⟨_, _, _, rfl⟩
    | z => cases hx; exact ⟨_, _, _, rfl⟩
    | _ => simp [aElems] at h
  obtain ⟨a, n, c, rfl⟩ := hsl
  refine ⟨?_, _, _, _, rfl⟩
  have hlen : n = es.length := by
    simp only [Builtin.lenOf, run_pure] at h2
    injection h2
  subst hlen
  obtain ⟨ns, rfl, rfl⟩ := bytesOf_inv hb
  obtain ⟨arr, h4, h5, h6⟩ := h3 _ (Nat.le_refl _)
  simp only [List.length_map, Nat.mul_one] at h4 h5
  cases a with
  | none =>
    simp only [Builtin.firstCells, run_pure] at h4
    injection h4 with h4 _
    rw [← h4] at h5
    have : ns = [] := by
      cases ns with
      | nil => rfl
      | cons a r => simp at h5
    subst this
    rfl
  | some ad =>
    simp only [Builtin.firstCells, Nat.mul_one] at h4
    have harr : arr = (ns.map (Value.int .u8)).toArray := by
      apply Array.ext
      · simp [h5]
      · intro i hi hi'
        simp at hi'
        have := h6 i 0 (.raw (.int .u8 ns[i])) arr[i] (by simpa using hi') (cellAt_some (e := .raw (.int .u8 ns[i])) (by simp [hi']) rfl) (by simp [hi])
        rw [VRel.raw_inv this]
        simp
    rw [harr] at h4
    simp only [List.length_map]
    rw [run_bytesToString w ad _ c ns h4, foldl_push]
    simp [ByteArray.empty, ByteArray.emptyWithCapacity]
    rfl

/-! ### Maps -/
theorem keyOf_fit {kk : KK} {a : AVal} {k : Value} (h : keyOf kk a = some k) : keyFit kk k := by
  unfold keyOf at h
  split at h
  · split at h
    · cases h; exact ⟨_, rfl⟩
    · cases h
  · cases h; exact ⟨_, rfl⟩
  · rename_i n cs
    cases hl : i64s cs with
    | none => simp [hl] at h
    | some l =>
      simp [hl] at h
      exact ⟨l, h.1, h.2.symm⟩
  · cases h

theorem keyOf_sound {G : Ghost} {kk : KK} {a : AVal} {k v : Value} (h : keyOf kk a = some k) (hv : VRel G a v) : v = k := by
  unfold keyOf at h
  split at h
  · rw [VRel.raw_inv hv]
    split at h
    · rename_i e; subst e; cases h; rfl
    · cases h
  · rw [VRel.raw_inv hv]; cases h; rfl
  · rename_i cs
    cases hl : i64s cs with
    | none => simp [hl] at h
    | some l =>
      simp [hl] at h
      rw [i64s_some hl] at hv
      rw [vrel_ints hv]
      exact h.2
  · cases h

theorem ints?_map : ∀ l : List Int, ints? (l.map (Value.int .i64)) = some l
  | [] => rfl
  | n :: l => by simp [ints?, ints?_map l]

theorem keyEq_ints (l m : List Int) : keyEq (.agg (l.map (Value.int .i64)).toArray) (.agg (m.map (Value.int .i64)).toArray) = (l == m) := by
  simp [keyEq, ints?_map]

theorem keyEq_eq {kk : KK} {x y : Value} (hx : keyFit kk x) (hy : keyFit kk y) : keyEq x y = true ↔ x = y := by
  cases kk with
  | int k => obtain ⟨a, rfl⟩ := hx; obtain ⟨b, rfl⟩ := hy; simp [keyEq]
  | bool => obtain ⟨a, rfl⟩ := hx; obtain ⟨b, rfl⟩ := hy; simp [keyEq]
  | ints n =>
    obtain ⟨l, hl, rfl⟩ := hx
    obtain ⟨m, hm, rfl⟩ := hy
    rw [keyEq_ints]
    constructor
    · intro h; rw [eq_of_beq h]
    · intro h
      have := congrArg (fun v => match v with | .agg a => ints? a.toList | _ => none) h
      simp [ints?_map] at this
      simp [this]

/-- The first entry of a key, with its place. -/
def cIdx (k : Value) : List MapEntry → Nat → Option (Nat × Value)
  | [], _ => none
  | e :: r, i => if keyEq k e.key then some (i, e.val) else cIdx k r (i + 1)

structure MapTy (P : Program) (t : TypeId) (kk : KK) (key elem : TypeId) : Prop where
  under : P.underlying t = some (.map key elem)
  kind : match kk with
    | .int k => P.underlying key = some (.int k)
    | .bool => P.underlying key = some .bool
    | .ints n => eqKind P key = .ints n

theorem mapKey_ty {P : Program} {t e : TypeId} {kk : KK} (h : mapKey P t = some (kk, e)) : ∃ key, MapTy P t kk key e := by
  unfold mapKey at h
  cases hu : P.underlying t with
  | none => simp [hu] at h
  | some d =>
    simp only [hu, Option.bind_eq_bind, Option.bind_some, bind, Option.bind] at h
    cases d <;> simp only at h <;> try (cases h)
    rename_i key elem
    refine ⟨key, ?_⟩
    split at h
    · cases h; exact ⟨hu, by assumption⟩
    · cases h; exact ⟨hu, by assumption⟩
    · cases h; exact ⟨hu, by assumption⟩
    · cases h

theorem findNow_int {k0 : IntKind} {n : Int} : ∀ (l : List MapEntry) (i : Nat), (∀ e, e ∈ l → keyFit (.int k0) e.key) → Instr.findNow (.int k0) (.int k0 n) l i = some (cIdx (.int k0 n) l i)
  | [], i, _ => rfl
  | e :: r, i, h => by
    obtain ⟨m, hm⟩ := h e (by simp)
    have ih := findNow_int (k0 := k0) (n := n) r (i + 1) (fun e he => h e (List.mem_cons_of_mem _ he))
    unfold Instr.findNow cIdx
    rw [hm]
    simp only [Instr.sameNow, keyEq, if_true]
    cases hnm : (n == m) with
    | true => simp at hnm; simp [hnm]
    | false => simp at hnm; simp [hnm, ih]

theorem findNow_bool {s : Bool} : ∀ (l : List MapEntry) (i : Nat), (∀ e, e ∈ l → keyFit .bool e.key) → Instr.findNow .bool (.bool s) l i = some (cIdx (.bool s) l i)
  | [], i, _ => rfl
  | e :: r, i, h => by
    obtain ⟨m, hm⟩ := h e (by simp)
    have ih := findNow_bool (s := s) r (i + 1) (fun e he => h e (List.mem_cons_of_mem _ he))
    unfold Instr.findNow cIdx
    rw [hm]
    simp only [Instr.sameNow, keyEq]
    rcases Bool.eq_false_or_eq_true (s == m) with hnm | hnm
    · simp only [hnm, if_true]
    · simp only [hnm, Bool.false_eq_true, if_false, ih]

theorem findAsking_ints {P : Program} {w : World} {t : TypeId} {n : Nat} (hk : eqKind P t = .ints n) {l : List Int} (hl : l.length = n) : ∀ (es : List MapEntry) (i : Nat), (∀ e, e ∈ es → keyFit (.ints n) e.key) →
    (Instr.findAsking t (.agg (l.map (Value.int .i64)).toArray) es i).run P w = .ok (cIdx (.agg (l.map (Value.int .i64)).toArray) es i) w
  | [], i, _ => rfl
  | e :: r, i, h => by
    obtain ⟨m, hm, he⟩ := h e (by simp)
    have ih := findAsking_ints (w := w) hk hl r (i + 1) (fun e he => h e (List.mem_cons_of_mem _ he))
    unfold Instr.findAsking cIdx
    rw [he, run_ok (run_equal_ints hk hl hm), keyEq_ints]
    cases (l == m) with
    | true => rfl
    | false => exact ih

theorem findKey_sound {P : Program} {w : World} {t : TypeId} {kk : KK} {key elem : TypeId} (ht : MapTy P t kk key elem) {k : Value} (hk : keyFit kk k) {es : List MapEntry} (hes : ∀ e, e ∈ es → keyFit kk e.key) :
    (Instr.findKey key k es).run P w = .ok (cIdx k es 0) w := by
  have hkind := ht.kind
  unfold Instr.findKey
  cases kk with
  | int k0 => obtain ⟨n, rfl⟩ := hk; rw [run_ok (run_underlying hkind w), findNow_int es 0 hes]; rfl
  | bool => obtain ⟨n, rfl⟩ := hk; rw [run_ok (run_underlying hkind w), findNow_bool es 0 hes]; rfl
  | ints n =>
    obtain ⟨l, hl, rfl⟩ := hk
    obtain ⟨fields, hu, _⟩ := eqKind_ints hkind
    rw [run_ok (run_underlying hu w)]
    cases es with
    | nil => rfl
    | cons e r =>
      simp only [Instr.findNow, Instr.sameNow]
      exact findAsking_ints hkind hl (e :: r) 0 hes

theorem run_checkFields {P : Program} {w : World} {em : Bool} {d : Nat} {l : List Int} : ∀ (fs : List Field) (k : Nat), k + fs.length = l.length →
    (∀ i f, fs[i]? = some f → f.offset = k + i ∧ (f.name ≠ "_") ∧ P.underlying f.type = some (.int .i64)) →
    (forIn fs () (fun f (_ : Unit) => (if f.name ≠ "_" then do
        let v ← part f.type (l.map (Value.int .i64)).toArray f.offset
        Instr.checkKey em (d + 1) f.type v
        pure (ForInStep.yield ())
      else pure (ForInStep.yield ()) : Sem (ForInStep Unit)))).run P w = .ok () w
  | [], k, hk, _ => rfl
  | f :: fs, k, hk, h => by
    obtain ⟨h1, h2, h3⟩ := h 0 f rfl
    simp only [List.length_cons] at hk
    rw [Nat.add_zero] at h1
    have hl : k < l.length := by omega
    rw [List.forIn_cons, if_pos h2]
    have hc : (Instr.checkKey em (d + 1) f.type (.int .i64 l[k])).run P w = .ok () w := by
      unfold Instr.checkKey
      rw [run_ok (run_underlying h3 w)]; rfl
    rw [run_bind, run_ok (run_part_int (v := .int .i64 l[k]) h3 (by rw [h1]; simp [hl])), run_ok hc, run_pure]
    exact run_checkFields fs (k + 1) (by omega) (fun i f hf => by have := h (i + 1) f hf; rw [show k + 1 + i = k + (i + 1) by omega]; exact this)

theorem checkKey_sound {P : Program} {w : World} {t : TypeId} {kk : KK} {key elem : TypeId} (ht : MapTy P t kk key elem) {k : Value} (hk : keyFit kk k) (em : Bool) : (Instr.checkKey em 10000 key k).run P w = .ok () w := by
  have hkind := ht.kind
  rw [show (10000 : Nat) = 9998 + 1 + 1 from rfl]
  unfold Instr.checkKey
  cases kk with
  | int k0 => obtain ⟨n, rfl⟩ := hk; rw [run_ok (run_underlying hkind w)]; rfl
  | bool => obtain ⟨n, rfl⟩ := hk; rw [run_ok (run_underlying hkind w)]; rfl
  | ints n =>
    obtain ⟨l, hl, rfl⟩ := hk
    obtain ⟨fields, hu, hn, hi, _⟩ := eqKind_ints hkind
    rw [run_ok (run_underlying hu w)]
    simp only []
    have := run_checkFields (P := P) (w := w) (em := em) (d := 9998) (l := l) fields.toList 0 (by simp [hn, hl]) (fun i f hf => by obtain ⟨a, b, c, _⟩ := intStruct_spec hi hf; exact ⟨by omega, b, c⟩)
    rw [← Array.forIn_toList]
    first | exact this | (rw [run_ok this]; rfl)

/-- The abstract entries and the real ones, one by one. -/
def ERel (G : Ghost) (es : List AEnt) (ms : List MapEntry) : Prop :=
  ms.length = es.length ∧ ∀ (i : Nat) (e : AEnt) (m : MapEntry), es[i]? = some e → ms[i]? = some m → e.key = m.key ∧ e.born = m.born ∧ VRel G e.val m.val

theorem ERel.cons {G : Ghost} {e : AEnt} {es : List AEnt} {m : MapEntry} {ms : List MapEntry} (h : ERel G (e :: es) (m :: ms)) : (e.key = m.key ∧ e.born = m.born ∧ VRel G e.val m.val) ∧ ERel G es ms :=
  ⟨h.2 0 e m rfl rfl, by simpa using h.1, fun i e m a b => h.2 (i + 1) e m a b⟩

theorem cIdx_find {G : Ghost} {k : Value} : ∀ {es : List AEnt} {ms : List MapEntry} {i : Nat}, ERel G es ms →
    match cIdx k ms i with
    | none => mFind k es = none ∧ mHas k es = false
    | some (j, v) => i ≤ j ∧ mHas k es = true ∧ (∃ a, mFind k es = some a ∧ VRel G a v) ∧ ∃ m, ms[j - i]? = some m ∧ m.val = v ∧ keyEq k m.key = true ∧ mBorn k es = some m.born
  | [], [], i, _ => ⟨rfl, rfl⟩
  | [], m :: ms, i, h => by have := h.1; simp at this
  | e :: es, [], i, h => by have := h.1; simp at this
  | e :: es, m :: ms, i, h => by
    obtain ⟨⟨h1, h2, h3⟩, h4⟩ := h.cons
    unfold cIdx mFind
    rw [h1]
    cases hk : keyEq k m.key with
    | true =>
      simp only [if_true]
      exact ⟨Nat.le_refl _, by simp [mHas, h1, hk], ⟨_, rfl, h3⟩, m, by simp, rfl, hk, by simp [mBorn, h1, hk, h2]⟩
    | false =>
      simp only [Bool.false_eq_true, if_false]
      have ih := cIdx_find (k := k) (i := i + 1) h4
      split at ih
      · rename_i hc
        exact ⟨ih.1, by simp [mHas, h1, hk]; simpa [mHas] using ih.2⟩
      · rename_i j v hc
        obtain ⟨a, b, c, m', d, e', f, g⟩ := ih
        refine ⟨by omega, by simp [mHas, h1, hk]; simpa [mHas] using b, c, m', ?_, e', f, by simp [mBorn, h1, hk, g]⟩
        rw [show j - i = (j - (i + 1)) + 1 by omega]
        exact d

theorem lookup_sound {P : Program} {G : Ghost} {H : AHeap} {w : World} (hs : St G H w) {t elem : TypeId} {kk : KK} (hk : mapKey P t = some (kk, elem)) {zv : AVal} (hz : tyZero P elem = some zv)
    {x k v : AVal} {xv kv : Value} {es : List AEnt} {key : Value} {ok : Bool} (hes : aEnts H kk x = some es) (hkey : keyOf kk k = some key) (hx : VRel G x xv) (hkv : VRel G k kv)
    (hv : v = if ok then .tup [(mFind key es).getD zv, .b (mFind key es).isSome] else (mFind key es).getD zv) :
    ∃ cv, (Instr.lookup t xv kv ok).run P w = .ok cv w ∧ VRel G v cv := by
  obtain ⟨kt, ht⟩ := mapKey_ty hk
  have hfit := keyOf_fit hkey
  rw [keyOf_sound hkey hkv]
  obtain ⟨z0, hz0, rfl⟩ := tyZero_run (w := w) hz
  unfold Instr.lookup
  rw [run_ok (run_underlying ht.under w)]
  simp only []
  have main : ∀ ms : Array MapEntry, ERel G es ms.toList → (∀ m, m ∈ ms.toList → keyFit kk m.key) → ∃ cv, ((do
      Instr.checkKey ms.isEmpty 10000 kt key
      let r ← Instr.findKey kt key ms.toList
      match r with
      | some (_, v) => do
        let x ← pure (v, true)
        pure (if ok then .tuple #[x.fst, .bool x.snd] else x.fst)
      | none => do
        let z ← zeroValue elem
        let x ← pure (z, false)
        pure (if ok then .tuple #[x.fst, .bool x.snd] else x.fst) : Sem Value).run P w) = .ok cv w ∧ VRel G v cv := by
    intro ms he hf
    rw [run_ok (checkKey_sound ht hfit _), run_ok (findKey_sound ht hfit hf)]
    have hc := cIdx_find (k := key) (i := 0) he
    split at hc
    · rename_i e
      rw [e]
      simp only []
      rw [run_ok hz0]
      refine ⟨_, rfl, ?_⟩
      subst hv
      rw [hc.1]
      cases ok with
      | false => exact vrel_ofValue G z0
      | true =>
        refine .tup _ _ rfl (fun i c u h1 h2 => ?_)
        match i with
        | 0 => simp at h1 h2; subst h1; subst h2; exact vrel_ofValue G z0
        | 1 => simp at h1 h2; subst h1; subst h2; exact .raw _
        | i + 2 => simp at h1
    · rename_i j u e
      rw [e]
      obtain ⟨_, _, ⟨a, h1, h2⟩, _⟩ := hc
      refine ⟨_, rfl, ?_⟩
      subst hv
      rw [h1]
      cases ok with
      | false => exact h2
      | true =>
        refine .tup _ _ rfl (fun i c u h1 h2' => ?_)
        match i with
        | 0 => simp at h1 h2'; subst h1; subst h2'; exact h2
        | 1 => simp at h1 h2'; subst h1; subst h2'; exact .raw _
        | i + 2 => simp at h1
  cases x with
  | raw u =>
    rw [VRel.raw_inv hx]
    unfold aEnts at hes
    split at hes
    · rename_i heq
      cases heq
      cases hes
      simp only []
      rw [run_ok (run_pure P #[] w)]
      exact main #[] ⟨rfl, fun i e m h1 h2 => by simp at h1⟩ (fun m hm => by simp at hm)
    · rename_i heq; cases heq
    · cases hes
  | mp b =>
    cases hx
    simp only [aEnts] at hes
    split at hes
    · rename_i kk' es' clock hb
      split at hes
      · rename_i e
        subst e
        cases hes
        obtain ⟨ob, hob, hr⟩ := hs.own b _ hb
        cases hr with
        | map _ _ _ arr hn hf hk' =>
          have hg : (getObj b).run P w = .ok (.map arr clock) w := by simp [getObj, Sem.run, hob]
          rw [run_ok hg]
          simp only []
          rw [run_ok (run_pure P arr w)]
          refine main arr ⟨by simpa using hn, fun i e m h1 h2 => hk' i e m h1 (by simpa using h2)⟩ (fun m hm => ?_)
          obtain ⟨i, hi, rfl⟩ := List.mem_iff_getElem.1 hm
          have hi' : i < es.length := by simpa [hn] using hi
          have := hk' i es[i] arr.toList[i] (by simp [hi']) (by simp)
          rw [← this.1]
          exact hf _ (by simp)
      · cases hes
    · cases hes
  | _ => simp [aEnts] at hes

end Heron
end
