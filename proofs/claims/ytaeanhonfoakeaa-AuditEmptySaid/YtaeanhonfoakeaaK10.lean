/- Rewriting rules, more: every operation; freshness; what a call gives. -/
import Derived.Test.YtaeanhonfoakeaaK9
import Derived.Test.YtaeanhonfoakeaaK1
import Derived.Laws.Strings
section
set_option linter.unusedSimpArgs false
set_option linter.unusedVariables false
namespace Heron
open Go

attribute [go_sem] symb_skip symb_ret symb_exit symb_rg symb_seq symb_cond symb_block condP_some ifP_true ifP_false seqK_normal seqK_ret seqK_exit blockK_normal blockK_ret blockK_exit loopK_normal loopK_ret loopK_exit regK_eq prune_nil prune_cons pruneC_some pruneC_none ofL_nil ofL_cons put_get putO_some putO_none opsW_nil opsW_cons opW_none opW_some opG_tt opG_ff opG_tf opG_ft setK_eq andV_some step_q ev_t ev_c q_mv q_pick pickV_t pickV_f q_un q_bin bin2_some q_len q_load q_fa q_ia ia2_ro len_ro addr_rp load_rp

/-! ### Encodings -/
def ub (c : UInt8) : AVal := .raw (.int .u8 c.toNat)
def bytesA (l : List UInt8) : AVal := .ro 1 (l.map ub)
def intsA (l : List Int) : AVal := .ro 1 (l.map AVal.i)

section
variable {P : Program} {R : Regs} {H : AHeap} {Q : AQ} {N : Regs → AHeap → Prop} {K : AVal → AHeap → Prop}

@[go_sem] theorem symb_loop {c : ACode} : symb P (.loop c) R H Q = loopC P c Q R H := nr rfl
@[go_sem] theorem symb_gh : symb P .gh R H Q = ghP (Q .normal) R H := nr rfl
@[go_sem] theorem symb_rf {keep : List Nat} {g : AX} {ps : List Nat} {as bd : ACode} : symb P (.rf keep g ps as bd) R H Q = rfP P keep ps (symb P as) (symb P bd) (g.ev R) R H Q := nr rfl
@[go_sem] theorem symb_rgs1 {l : List AOper} {keep : List Nat} : symb P (.rgs [l] keep) R H Q = opsW P l (regK keep Q) R H := nr rfl
@[go_sem] theorem symb_rgs2 {l l' : List AOper} {r : List (List AOper)} {keep : List Nat} : symb P (.rgs (l :: l' :: r) keep) R H Q = (opsW P l (regK keep Q) R H ∧ symb P (.rgs (l' :: r) keep) R H Q) := nr rfl
@[go_sem] theorem endK_ret {res : List ARes} : endK res K .ret R H = andV (resV (resL R H res)) K H := nr rfl
@[go_sem] theorem endK_normal {res : List ARes} : endK res K .normal R H = andV (resV (resL R H res)) K H := nr rfl
def resC (a : Option AVal) (l : Option (List AVal)) : Option (List AVal) := match a, l with
  | some a, some l => some (a :: l)
  | _, _ => none
@[go_sem] theorem resL_nil : resL R H [] = some [] := nr rfl
@[go_sem] theorem resL_cons {r : ARes} {rs : List ARes} : resL R H (r :: rs) = resC (r.ev R H) (resL R H rs) := nr rfl
@[go_sem] theorem resC_some {a : AVal} {l : List AVal} : resC (some a) (some l) = some (a :: l) := nr rfl
@[go_sem] theorem res_tmp {t : Nat} : ARes.ev R H (.tmp t) = R t := nr rfl
@[go_sem] theorem res_cell {t : Nat} {ag : Option Nat} : ARes.ev R H (.cell t ag) = (R t).bind (aLoad H ag) := nr rfl
@[go_sem] theorem resV_one {v : AVal} : resV (some [v]) = some v := nr rfl
@[go_sem] theorem resV_nil : resV (some []) = some (.tup []) := nr rfl
@[go_sem] theorem resV_two {a b : AVal} {r : List AVal} : resV (some (a :: b :: r)) = some (.tup (a :: b :: r)) := nr rfl
@[go_sem] theorem regs0_nil {k : Nat} : regs0 k [] = [] := nr rfl
@[go_sem] theorem regs0_cons {k : Nat} {a : AVal} {r : List AVal} : regs0 k (a :: r) = (k, a) :: regs0 (k + 1) r := nr rfl
@[go_sem] theorem onlyK_normal {f : Regs → AHeap → AQ → Prop} : onlyK f Q .normal R H = f R H Q := nr rfl
@[go_sem] theorem yQ_normal {l : Nat} {r : Loop} {L : List (Nat × AVal)} : yQ l r L K .normal R H = (H l = none → K (.b true) (H.set l (.loop (loopAt r 0) L))) := nr rfl
@[go_sem] theorem yQ_ret {l : Nat} {r : Loop} {L : List (Nat × AVal)} : yQ l r L K .ret R H = (H l = none → K (.b false) (H.set l (.loop (loopAt r 1) L))) := nr rfl
@[go_sem] theorem yQ_exit {l : Nat} {r : Loop} {L : List (Nat × AVal)} {id : Nat} : yQ l r L K (.exit id) R H = (H l = none → K (.b false) (H.set l (.loop (loopAt r (id + 2)) L))) := nr rfl
@[go_sem] theorem putArgs_cons {p : Nat} {ps : List Nat} {a : AVal} {as : List AVal} : putArgs R (p :: ps) (a :: as) = putArgs (R.put p a) ps as := nr rfl
@[go_sem] theorem putArgs_nil {as : List AVal} : putArgs R [] as = R := nr rfl

/-! memory operations -/
@[go_sem] theorem step_alloc {sz : Nat} {zero : AVal} : step P K R H (.alloc sz zero) = allocK (mkPtr sz) (.rows sz [zero]) K H := nr rfl
def boxK (sz : Nat) (o : Option AVal) (K : AVal → AHeap → Prop) (H : AHeap) : Prop := match o with
  | some v => v.cells.length = sz ∧ allocK (mkPtr sz) (.rows sz [v]) K H
  | none => False
@[go_sem] theorem step_box {sz : Nat} {x : AX} : step P K R H (.box sz x) = boxK sz (x.ev R) K H := nr rfl
def bslK (sz n : Nat) (o : Option (List AVal)) (K : AVal → AHeap → Prop) (H : AHeap) : Prop := match o with
    | some es => allocK (mkSl sz n) (.rows sz es) K H
    | none => False
@[go_sem] theorem step_bsl {sz n : Nat} {zero : AVal} {parts : List (Nat × AX)} : step P K R H (.bsl sz n zero parts) = bslK sz n (fillE sz (List.replicate n zero) (parts.map fun p => (p.1, p.2.ev R))) K H := nr rfl
@[go_sem] theorem bslK_some {sz n : Nat} {es : List AVal} : bslK sz n (some es) K H = allocK (mkSl sz n) (.rows sz es) K H := nr rfl
@[go_sem] theorem fillE_nil {sz : Nat} {es : List AVal} : fillE sz es [] = some es := nr rfl
@[go_sem] theorem fillE_cons {sz i : Nat} {es : List AVal} {v : AVal} {r : List (Nat × Option AVal)} : fillE sz es ((i, some v) :: r) = if v.cells.length = sz ∧ i < es.length then fillE sz (es.set i v) r else none := nr rfl
def mksK (sz bytes : Nat) (zero : AVal) (l c : Option Int) (K : AVal → AHeap → Prop) (H : AHeap) : Prop := match l, c with
    | some l, some c => 0 ≤ l ∧ l ≤ c ∧ room c.toNat bytes ∧ allocK (fun b => .sl b sz 0 l.toNat c.toNat) (.rows sz (List.replicate c.toNat zero)) K H
    | _, _ => False
@[go_sem] theorem step_mks {sz bytes : Nat} {zero : AVal} {l c : AX} : step P K R H (.mks sz bytes zero l c) = mksK sz bytes zero ((l.ev R).bind aInt) ((c.ev R).bind aInt) K H := nr rfl
@[go_sem] theorem aInt_int {k : IntKind} {n : Int} : aInt (.raw (.int k n)) = some n := nr rfl
@[go_sem] theorem step_mkm {kk : KK} : step P K R H (.mkm kk) = allocK mkMap (.map kk [] 0) K H := nr rfl
def s2bK (o : Option AVal) (K : AVal → AHeap → Prop) (H : AHeap) : Prop := match o with
    | some (.raw (.string s)) => s.size ≤ 2 ^ 40 ∧ ∀ b cap, H b = none → s.size ≤ cap → K (.sl b 1 0 s.size cap) (H.set b (.rows 1 (s.data.toList.map fun c => .raw (.int .u8 c.toNat))))
    | _ => False
@[go_sem] theorem step_s2b {x : AX} : step P K R H (.s2b x) = s2bK (x.ev R) K H := nr rfl
def storeK (n : Nat) (a v : Option AVal) (K : AVal → AHeap → Prop) (H : AHeap) : Prop := match a, v with
    | some a, some v => andH (storeH H n a v) K undefA
    | _, _ => False
@[go_sem] theorem step_store {n : Nat} {a v : AX} : step P K R H (.store n a v) = storeK n (a.ev R) (v.ev R) K H := nr rfl
@[go_sem] theorem storeK_some {n : Nat} {a v : AVal} : storeK n (some a) (some v) K H = andH (storeH H n a v) K undefA := nr rfl
@[go_sem] theorem andH_some {v : AVal} : andH (some H) K v = K v H := nr rfl
def stC (H : AHeap) (n b sz row col : Nat) (v : AVal) (o : Option AObj) : Option AHeap := match o with
    | some (.rows sz' es) => if sz = sz' then (es[row]?).bind fun e => (updCell e sz col n v).map fun e' => H.set b (.rows sz (es.set row e')) else none
    | _ => none
@[go_sem] theorem storeH_ptr {n b sz row col : Nat} {v : AVal} : storeH H n (.ptr b sz row col) v = stC H n b sz row col v (H b) := nr rfl
@[go_sem] theorem stC_rows {n b sz row col : Nat} {v : AVal} {es : List AVal} : stC H n b sz row col v (some (.rows sz es)) = (es[row]?).bind fun e => (updCell e sz col n v).map fun e' => H.set b (.rows sz (es.set row e')) := by simp [stC]
theorem updCell_whole {e v : AVal} {n : Nat} (h1 : v.cells.length = n) (h2 : v.cells.all AVal.cellOk = true) : updCell e n 0 n v = some v := by simp [updCell, h1, h2]
theorem updCell_one {cs : List AVal} {sz col : Nat} {v : AVal} (h1 : v.cells = [v]) (h2 : v.cellOk = true) (h3 : col < cs.length) (h4 : (sz = 1) = False) : updCell (.agg cs) sz col 1 v = some (.agg (cs.set col v)) := by
  have h4 : sz ≠ 1 := fun e => by rw [h4] at e; exact e
  have h3 : col + 1 ≤ cs.length := h3
  have e : setAt cs col [v] = cs.set col v := by
    unfold setAt
    rw [List.set_eq_take_append_cons_drop]
    simp [show col < cs.length by omega]
  unfold updCell
  rw [h1, if_pos (by simp [h2]), if_neg (by omega)]
  rw [show (AVal.agg cs).cells = cs from rfl, if_pos h3, e]
def appOp (f : Nat → Nat → AVal → List AVal → (AVal → AHeap → Prop) → AHeap → Prop) (sz bytes : Nat) (x : Option AVal) (y : Option (List AVal)) (K : AVal → AHeap → Prop) (H : AHeap) : Prop := match x, y with
    | some a, some ys => f sz bytes a ys K H
    | _, _ => False
@[go_sem] theorem step_app {sz bytes : Nat} {x y : AX} : step P K R H (.app sz bytes x y) = appOp appK sz bytes (x.ev R) ((y.ev R).bind (aElems H sz)) K H := nr rfl
@[go_sem] theorem step_appk {sz bytes : Nat} {x y : AX} : step P K R H (.appk sz bytes x y) = appOp appkK sz bytes (x.ev R) ((y.ev R).bind (aElems H sz)) K H := nr rfl
@[go_sem] theorem step_appn {sz bytes : Nat} {x y : AX} : step P K R H (.appn sz bytes x y) = appOp appnK sz bytes (x.ev R) ((y.ev R).bind (aElems H sz)) K H := nr rfl
@[go_sem] theorem appOp_some {f : Nat → Nat → AVal → List AVal → (AVal → AHeap → Prop) → AHeap → Prop} {sz bytes : Nat} {a : AVal} {ys : List AVal} : appOp f sz bytes (some a) (some ys) K H = f sz bytes a ys K H := nr rfl
def appzK (sz bytes : Nat) (zero : AVal) (x : Option AVal) (n : Option Int) (K : AVal → AHeap → Prop) (H : AHeap) : Prop := match x, n with
    | some a, some n => 0 ≤ n ∧ room n.toNat bytes ∧ appkK sz bytes a (List.replicate n.toNat zero) K H
    | _, _ => False
@[go_sem] theorem step_appz {sz bytes : Nat} {zero : AVal} {x n : AX} : step P K R H (.appz sz bytes zero x n) = appzK sz bytes zero (x.ev R) ((n.ev R).bind aInt) K H := nr rfl
def cpyO (sz : Nat) (x : Option AVal) (y : Option (List AVal)) (K : AVal → AHeap → Prop) (H : AHeap) : Prop := match x, y with
    | some a, some ys => okEs ys ∧ cpyK (cpyH H sz a ys) K
    | _, _ => False
@[go_sem] theorem step_cpy {sz : Nat} {x y : AX} : step P K R H (.cpy sz x y) = cpyO sz (x.ev R) ((y.ev R).bind (aElems H sz)) K H := nr rfl
def mupK (kk : KK) (m k v : Option AVal) (K : AVal → AHeap → Prop) (H : AHeap) : Prop := match m, k, v with
    | some m, some k, some v => andH (mupH H kk m k v) K undefA
    | _, _, _ => False
@[go_sem] theorem step_mup {kk : KK} {m k v : AX} : step P K R H (.mup kk m k v) = mupK kk (m.ev R) (k.ev R) (v.ev R) K H := nr rfl
@[go_sem] theorem mupK_some {kk : KK} {m k v : AVal} : mupK kk (some m) (some k) (some v) K H = andH (mupH H kk m k v) K undefA := nr rfl
def rngK (m : Option AVal) (K : AVal → AHeap → Prop) (H : AHeap) : Prop := match m with
    | some (.mp b) => match H b with
      | some (.map _ _ clock) => allocK mkIt (.iter b clock [] clock) K H
      | _ => False
    | _ => False
@[go_sem] theorem step_rng {m : AX} : step P K R H (.rng m) = rngK (m.ev R) K H := nr rfl
def nxtO (i : Option AVal) (K : AVal → AHeap → Prop) (H : AHeap) : Prop := match i with
    | some a => nxtK a K H
    | none => False
@[go_sem] theorem step_nxt {i : AX} : step P K R H (.nxt i) = nxtO (i.ev R) K H := nr rfl
@[go_sem] theorem nxtO_some {a : AVal} : nxtO (some a) K H = nxtK a K H := nr rfl
def eqnO (neg : Bool) (x : Option AVal) (K : AVal → AHeap → Prop) (H : AHeap) : Prop := match x with
    | some a => eqnK neg a K H
    | none => False
@[go_sem] theorem step_eqn {neg : Bool} {x : AX} : step P K R H (.eqn neg x) = eqnO neg (x.ev R) K H := nr rfl
@[go_sem] theorem eqnO_some {neg : Bool} {a : AVal} : eqnO neg (some a) K H = eqnK neg a K H := nr rfl
@[go_sem] theorem step_call {f : FuncId} {args : List AX} : step P K R H (.call f args) = callK P f (evs R args) K H := nr rfl
@[go_sem] theorem step_qcall {f : FuncId} {args : List AX} : step P K R H (.qcall f args) = qcallK P f (evs R args) K H := nr rfl
@[go_sem] theorem step_calv {f : AX} {args : List AX} : step P K R H (.calv f args) = calvK P (f.ev R) (evs R args) K H := nr rfl
@[go_sem] theorem step_qcalv {f : AX} {args : List AX} : step P K R H (.qcalv f args) = qcalvK P (f.ev R) (evs R args) K H := nr rfl
@[go_sem] theorem callK_some {f : FuncId} {l : List AVal} : callK P f (some l) K H = callP P f l H K := nr rfl
@[go_sem] theorem calvK_fn {f : FuncId} {cap l : List AVal} : calvK P (some (.fn f cap)) (some l) K H = (enterable P f = true ∧ callP P f (l ++ cap) H K) := nr rfl
@[go_sem] theorem calvK_yd {r : Nat} {l : List AVal} : calvK P (some (.yd r)) (some l) K H = yieldP P r l H K := nr rfl
def evC (a : Option AVal) (l : Option (List AVal)) : Option (List AVal) := match a, l with
  | some a, some l => some (a :: l)
  | _, _ => none
@[go_sem] theorem evs_nil : evs R [] = some [] := nr rfl
@[go_sem] theorem evs_cons {x : AX} {r : List AX} : evs R (x :: r) = evC (x.ev R) (evs R r) := nr rfl
@[go_sem] theorem evC_some {a : AVal} {l : List AVal} : evC (some a) (some l) = some (a :: l) := nr rfl

/-! values -/
def convV (k : IntKind) (a : Option AVal) : Option AVal := match a with
    | some (.raw (.int _ n)) => some (.raw (.int k (k.wrap n)))
    | _ => none
@[go_sem] theorem q_conv {k : IntKind} {x : AX} : qeval R H (.conv k x) = convV k (x.ev R) := nr rfl
@[go_sem] theorem convV_int {k j : IntKind} {n : Int} : convV k (some (.raw (.int j n))) = some (.raw (.int k (k.wrap n))) := nr rfl
def b2sV (H : AHeap) (o : Option AVal) : Option AVal := o.bind fun a => if isStr a then none else (aElems H 1 a).bind fun es => (bytesOf es).map fun l => .raw (.string ⟨l.toArray⟩)
@[go_sem] theorem q_b2s {x : AX} : qeval R H (.b2s x) = b2sV H (x.ev R) := nr rfl
theorem bytesOf_ub : ∀ l : List UInt8, bytesOf (l.map ub) = some l
  | [] => rfl
  | c :: r => by
    simp only [List.map_cons, bytesOf, bytesOf_ub r]
    simp [ub, byteOf]
@[go_sem] theorem b2sV_ro {l : List UInt8} : b2sV H (some (.ro 1 (l.map ub))) = some (.raw (.string ⟨l.toArray⟩)) := by
  simp [b2sV, isStr, aElems, bytesOf_ub]
@[go_sem] theorem b2sV_bytesA {l : List UInt8} : b2sV H (some (bytesA l)) = some (.raw (.string ⟨l.toArray⟩)) := b2sV_ro
@[go_sem] theorem q_build {zero : List AVal} {parts : List (Nat × Nat × AX)} : qeval R H (.build zero parts) = (fillA zero (parts.map fun p => (p.1, p.2.1, p.2.2.ev R))).map .agg := nr rfl
@[go_sem] theorem fillA_nil {cs : List AVal} : fillA cs [] = some cs := nr rfl
def fillB (cs : List AVal) (off n : Nat) (v : Option AVal) (r : List (Nat × Nat × Option AVal)) : Option (List AVal) := fillA cs ((off, n, v) :: r)
theorem fillA_one {cs : List AVal} {off : Nat} {v : AVal} {r : List (Nat × Nat × Option AVal)} (h1 : v.cells = [v]) (h2 : off < cs.length) : fillA cs ((off, 1, some v) :: r) = fillA (cs.set off v) r := by
  have e : setAt cs off [v] = cs.set off v := by
    unfold setAt
    rw [List.set_eq_take_append_cons_drop]
    simp [h2]
  simp only [fillA]
  rw [h1, if_pos ⟨rfl, h2⟩, e]
def nilcV (a : Option AVal) : Option AVal := match a with
    | some (.ptr b sz row col) => some (.ptr b sz row col)
    | some (.rp e col) => some (.rp e col)
    | some (.fn f cap) => some (.fn f cap)
    | _ => none
@[go_sem] theorem q_nilc {x : AX} : qeval R H (.nilc x) = nilcV (x.ev R) := nr rfl
@[go_sem] theorem nilcV_ptr {b sz row col : Nat} : nilcV (some (.ptr b sz row col)) = some (.ptr b sz row col) := nr rfl
@[go_sem] theorem nilcV_rp {e : AVal} {col : Nat} : nilcV (some (.rp e col)) = some (.rp e col) := nr rfl
@[go_sem] theorem nilcV_fn {f : FuncId} {cap : List AVal} : nilcV (some (.fn f cap)) = some (.fn f cap) := nr rfl
def subV (sz : Nat) (a : Option AVal) (l h m : Option (Option Int)) : Option AVal := a.bind fun a => l.bind fun l => h.bind fun h => m.bind fun m => qSub sz a l h m
@[go_sem] theorem q_sub {sz : Nat} {x : AX} {lo hi : Option AX} : qeval R H (.sub sz x lo hi none) = subV sz (x.ev R) (evB R lo) (evB R hi) (some none) := by simp [qeval, subV, evB]
@[go_sem] theorem q_sub3 {sz : Nat} {x h m : AX} {lo : Option AX} : qeval R H (.sub sz x lo (some h) (some m)) = subV sz (x.ev R) (evB R lo) (evB R (some h)) (evB R (some m)) := by simp [qeval, subV]
@[go_sem] theorem evB_none : evB R none = some none := nr rfl
@[go_sem] theorem evB_some {x : AX} : evB R (some x) = ((x.ev R).bind aInt).map some := nr rfl
@[go_sem] theorem subV_some {sz : Nat} {a : AVal} {l h m : Option Int} : subV sz (some a) (some l) (some h) (some m) = qSub sz a l h m := nr rfl
@[go_sem] theorem q_fd {off : Nat} {ag : Option Nat} {x : AX} : qeval R H (.fd off ag x) = (x.ev R).bind (aField off ag) := nr rfl
@[go_sem] theorem aField_one {off : Nat} {cs : List AVal} : aField off none (.agg cs) = cs[off]? := nr rfl
def lkV (H : AHeap) (kk : KK) (zero : AVal) (x k : Option AVal) (ok : Bool) : Option AVal := x.bind fun a => k.bind fun k => (keyOf kk k).bind fun k => (aEnts H kk a).map fun es =>
      if ok then .tup [(mFind k es).getD zero, .b (mFind k es).isSome] else (mFind k es).getD zero
@[go_sem] theorem q_lk {kk : KK} {zero : AVal} {x k : AX} {ok : Bool} : qeval R H (.lk kk zero x k ok) = lkV H kk zero (x.ev R) (k.ev R) ok := nr rfl
@[go_sem] theorem q_lens {x : AX} : qeval R H (.lens x) = (x.ev R).bind fun a => (aLens a).map .i := nr rfl
@[go_sem] theorem q_lenm {x : AX} : qeval R H (.lenm x) = (x.ev R).bind fun a => (aLenm H a).map .i := nr rfl
@[go_sem] theorem q_cap {x : AX} : qeval R H (.cap x) = (x.ev R).bind fun a => (aCap a).map .i := nr rfl
def extV (a : Option AVal) (i : Nat) : Option AVal := match a with
    | some (.tup vs) => vs[i]?
    | _ => none
@[go_sem] theorem q_ext {x : AX} {i : Nat} : qeval R H (.ext x i) = extV (x.ev R) i := nr rfl
@[go_sem] theorem extV_tup {vs : List AVal} {i : Nat} : extV (some (.tup vs)) i = vs[i]? := nr rfl
@[go_sem] theorem q_mkf {f : FuncId} {cap : List AX} : qeval R H (.mkf f cap) = (evs R cap).map (.fn f) := nr rfl
def mxV (g : Bool) (x y : Option AVal) : Option AVal := x.bind fun a => y.bind fun c => aMax g a c
@[go_sem] theorem q_mx {x y : AX} : qeval R H (.mx x y) = mxV true (x.ev R) (y.ev R) := nr rfl
@[go_sem] theorem q_mn {x y : AX} : qeval R H (.mn x y) = mxV false (x.ev R) (y.ev R) := nr rfl
@[go_sem] theorem mxV_mx {k : IntKind} {x y : Int} : mxV true (some (.raw (.int k x))) (some (.raw (.int k y))) = some (.raw (.int k (if y > x then y else x))) := by simp [mxV, aMax]
@[go_sem] theorem mxV_mn {k : IntKind} {x y : Int} : mxV false (some (.raw (.int k x))) (some (.raw (.int k y))) = some (.raw (.int k (if y < x then y else x))) := by simp [mxV, aMax]

@[go_sem] theorem bool_not {c : Bool} : aun .not (.raw (.bool c)) = some (.b !c) := nr rfl
@[go_sem] theorem int_neg {k : IntKind} {n : Int} : aun .neg (.raw (.int k n)) = some (.raw (.int k (k.wrap (0 - n)))) := nr rfl
def iand (k : IntKind) (x y : Int) : Int := k.wrap (BitVec.ofInt k.bits x &&& BitVec.ofInt k.bits y).toNat
section
variable {k : IntKind} {q : EqK} {x y : Int}
@[go_sem] theorem bin_add : abin .add q (.raw (.int k x)) (.raw (.int k y)) = some (.raw (.int k (k.wrap (x + y)))) := by simp [abin, isShift, ibin]
@[go_sem] theorem bin_sub : abin .sub q (.raw (.int k x)) (.raw (.int k y)) = some (.raw (.int k (k.wrap (x - y)))) := by simp [abin, isShift, ibin]
@[go_sem] theorem bin_mul : abin .mul q (.raw (.int k x)) (.raw (.int k y)) = some (.raw (.int k (k.wrap (x * y)))) := by simp [abin, isShift, ibin]
@[go_sem] theorem bin_quo (h : (y = 0) = False) : abin .quo q (.raw (.int k x)) (.raw (.int k y)) = some (.raw (.int k (k.wrap (x.tdiv y)))) := by simp [abin, isShift, ibin, h]
@[go_sem] theorem bin_rem (h : (y = 0) = False) : abin .rem q (.raw (.int k x)) (.raw (.int k y)) = some (.raw (.int k (x.tmod y))) := by simp [abin, isShift, ibin, h]
@[go_sem] theorem bin_and : abin .and q (.raw (.int k x)) (.raw (.int k y)) = some (.raw (.int k (iand k x y))) := by simp [abin, isShift, ibin, iand]
@[go_sem] theorem bin_or : abin .or q (.raw (.int k x)) (.raw (.int k y)) = some (.raw (.int k (k.wrap (BitVec.ofInt k.bits x ||| BitVec.ofInt k.bits y).toNat))) := by simp [abin, isShift, ibin]
@[go_sem] theorem bin_xor : abin .xor q (.raw (.int k x)) (.raw (.int k y)) = some (.raw (.int k (k.wrap (BitVec.ofInt k.bits x ^^^ BitVec.ofInt k.bits y).toNat))) := by simp [abin, isShift, ibin]
theorem beq_dec (x y : Int) : (x == y) = decide (x = y) := by by_cases h : x = y <;> simp [h]
@[go_sem] theorem bin_eql : abin .eql q (.raw (.int k x)) (.raw (.int k y)) = some (.b (decide (x = y))) := by simp [abin, isShift, ibin, beq_dec]
@[go_sem] theorem bin_neq : abin .neq q (.raw (.int k x)) (.raw (.int k y)) = some (.b (decide (¬ x = y))) := by
  by_cases h : x = y <;> simp [abin, isShift, ibin, h]
@[go_sem] theorem bin_lss : abin .lss q (.raw (.int k x)) (.raw (.int k y)) = some (.b (decide (x < y))) := by simp [abin, isShift, ibin]
@[go_sem] theorem bin_leq : abin .leq q (.raw (.int k x)) (.raw (.int k y)) = some (.b (decide (x ≤ y))) := by simp [abin, isShift, ibin]
@[go_sem] theorem bin_gtr : abin .gtr q (.raw (.int k x)) (.raw (.int k y)) = some (.b (decide (y < x))) := by simp [abin, isShift, ibin]
@[go_sem] theorem bin_geq : abin .geq q (.raw (.int k x)) (.raw (.int k y)) = some (.b (decide (y ≤ x))) := by simp [abin, isShift, ibin]
end
@[go_sem] theorem bin_beql {x y : Bool} : abin .eql .bool (.raw (.bool x)) (.raw (.bool y)) = some (.b (x == y)) := nr rfl
@[go_sem] theorem bin_bneq {x y : Bool} : abin .neq .bool (.raw (.bool x)) (.raw (.bool y)) = some (.b (x != y)) := nr rfl
theorem str_beq (a b : List UInt8) : ((⟨a.toArray⟩ : ByteArray).toList == (⟨b.toArray⟩ : ByteArray).toList) = decide (a = b) := by
  rw [ByteArray.toList_eq, ByteArray.toList_eq]
  by_cases e : a = b <;> simp [e]
@[go_sem] theorem bin_seql {q : EqK} {a b : List UInt8} : abin .eql q (.raw (.string ⟨a.toArray⟩)) (.raw (.string ⟨b.toArray⟩)) = some (.b (decide (a = b))) := by
  simp only [abin, str_beq]
@[go_sem] theorem bin_sneq {q : EqK} {a b : List UInt8} : abin .neq q (.raw (.string ⟨a.toArray⟩)) (.raw (.string ⟨b.toArray⟩)) = some (.b (!decide (a = b))) := by
  simp only [abin, str_beq]

/-! loads, elements -/
def ldC (ag : Option Nat) (sz row col : Nat) (o : Option AObj) : Option AVal := match o with
    | some (.rows sz' es) => if sz = sz' then (es[row]?).bind fun e => subCells e sz col ag else none
    | _ => none
@[go_sem] theorem load_ptr {ag : Option Nat} {b sz row col : Nat} : aLoad H ag (.ptr b sz row col) = ldC ag sz row col (H b) := nr rfl
@[go_sem] theorem ldC_rows {ag : Option Nat} {sz row col : Nat} {es : List AVal} : ldC ag sz row col (some (.rows sz es)) = (es[row]?).bind fun e => subCells e sz col ag := by simp [ldC]
@[go_sem] theorem subC_none {e : AVal} {sz col : Nat} : subCells e sz col none = e.cells[col]? := nr rfl
@[go_sem] theorem subC_whole {e : AVal} {sz : Nat} : subCells e sz 0 (some sz) = some e.toAgg := by simp [subCells]
@[go_sem] theorem load_rpn {col n : Nat} {e : AVal} : aLoad H (some n) (.rp e col) = subCells e e.cells.length col (some n) := nr rfl
@[go_sem] theorem cells_agg {cs : List AVal} : (AVal.agg cs).cells = cs := nr rfl
@[go_sem] theorem toAgg_agg {cs : List AVal} : (AVal.agg cs).toAgg = .agg cs := nr rfl
@[go_sem] theorem cells_int {k : IntKind} {n : Int} : (AVal.raw (.int k n)).cells = [.raw (.int k n)] := nr rfl
@[go_sem] theorem cells_bool {c : Bool} : (AVal.raw (.bool c)).cells = [.raw (.bool c)] := nr rfl
@[go_sem] theorem cells_str {c : ByteArray} : (AVal.raw (.string c)).cells = [.raw (.string c)] := nr rfl
@[go_sem] theorem cells_rsl {a : Option Addr} {n c : Nat} : (AVal.raw (.slice a n c)).cells = [.raw (.slice a n c)] := nr rfl
@[go_sem] theorem cells_ptrr {a : Option Addr} : (AVal.raw (.pointer a)).cells = [.raw (.pointer a)] := nr rfl
@[go_sem] theorem cells_mapr {a : Option Nat} : (AVal.raw (.map a)).cells = [.raw (.map a)] := nr rfl
@[go_sem] theorem cells_nilf : (AVal.raw .nilFunc).cells = [.raw .nilFunc] := nr rfl
@[go_sem] theorem cells_sl {b sz row len cap : Nat} : (AVal.sl b sz row len cap).cells = [.sl b sz row len cap] := nr rfl
@[go_sem] theorem cells_sc {b sz row col len cap : Nat} : (AVal.sc b sz row col len cap).cells = [.sc b sz row col len cap] := nr rfl
@[go_sem] theorem cells_ro {sz : Nat} {es : List AVal} : (AVal.ro sz es).cells = [.ro sz es] := nr rfl
@[go_sem] theorem cells_ptr {b sz row col : Nat} : (AVal.ptr b sz row col).cells = [.ptr b sz row col] := nr rfl
@[go_sem] theorem cells_rp {e : AVal} {col : Nat} : (AVal.rp e col).cells = [.rp e col] := nr rfl
@[go_sem] theorem cells_mp {b : Nat} : (AVal.mp b).cells = [.mp b] := nr rfl
@[go_sem] theorem cells_fn {f : FuncId} {cs : List AVal} : (AVal.fn f cs).cells = [.fn f cs] := nr rfl
@[go_sem] theorem cells_yd {l : Nat} : (AVal.yd l).cells = [.yd l] := nr rfl
@[go_sem] theorem cells_z : (AVal.z).cells = [.z] := nr rfl
@[go_sem] theorem cells_ub {c : UInt8} : (ub c).cells = [ub c] := nr rfl
@[go_sem] theorem cells_bytesA {l : List UInt8} : (bytesA l).cells = [bytesA l] := nr rfl
@[go_sem] theorem cells_intsA {l : List Int} : (intsA l).cells = [intsA l] := nr rfl
@[go_sem] theorem ia2_sl {sz b row len cap : Nat} {k : IntKind} {n : Int} : ia2 sz (some (.sl b sz row len cap)) (some (.raw (.int k n))) = if 0 ≤ n ∧ n < len then some (.ptr b sz (row + n.toNat) 0) else none := by simp [ia2, aInt, aIndex]
@[go_sem] theorem ia2_bytesA {l : List UInt8} {k : IntKind} {n : Int} : ia2 1 (some (bytesA l)) (some (.raw (.int k n))) = if 0 ≤ n then (l[n.toNat]?).map fun c => .rp (ub c) 0 else none := by
  simp [bytesA, ia2, aInt, aIndex, Function.comp_def]
@[go_sem] theorem ia2_intsA {l : List Int} {k : IntKind} {n : Int} : ia2 1 (some (intsA l)) (some (.raw (.int k n))) = if 0 ≤ n then (l[n.toNat]?).map fun c => .rp (AVal.i c) 0 else none := by
  simp [intsA, ia2, aInt, aIndex, Function.comp_def]
@[go_sem] theorem len_sl {b sz row len cap : Nat} : aLen (.sl b sz row len cap) = some (len : Int) := nr rfl
@[go_sem] theorem len_bytesA {l : List UInt8} : aLen (bytesA l) = some (l.length : Int) := by simp [bytesA, aLen]
@[go_sem] theorem len_intsA {l : List Int} : aLen (intsA l) = some (l.length : Int) := by simp [intsA, aLen]
@[go_sem] theorem len_nil {n c : Nat} : aLen (.raw (.slice none n c)) = some (n : Int) := nr rfl
@[go_sem] theorem len_z : aLen .z = some 0 := nr rfl
@[go_sem] theorem el_ro {sz : Nat} {es : List AVal} : aElems H sz (.ro sz es) = some es := by simp [aElems]
@[go_sem] theorem el_bytesA {l : List UInt8} : aElems H 1 (bytesA l) = some (l.map ub) := by simp [bytesA, aElems]
@[go_sem] theorem el_intsA {l : List Int} : aElems H 1 (intsA l) = some (l.map AVal.i) := by simp [intsA, aElems]
@[go_sem] theorem el_nil {sz c : Nat} : aElems H sz (.raw (.slice none 0 c)) = some [] := nr rfl
@[go_sem] theorem el_z {sz : Nat} : aElems H sz .z = some [] := nr rfl
def elC (sz row len : Nat) (o : Option AObj) : Option (List AVal) := match o with
    | some (.rows sz'' es) => if sz = sz'' ∧ row + len ≤ es.length then some ((es.drop row).take len) else none
    | _ => none
@[go_sem] theorem el_sl {sz b row len cap : Nat} : aElems H sz (.sl b sz row len cap) = elC sz row len (H b) := by
  simp only [aElems, elC]
  cases H b with
  | none => rfl
  | some o => cases o <;> simp
@[go_sem] theorem elC_whole {sz len : Nat} {es : List AVal} (h : len = es.length) : elC sz 0 len (some (.rows sz es)) = some es := by subst h; simp [elC]
@[go_sem] theorem addr_ptr {off b sz row col : Nat} : aAddr off (.ptr b sz row col) = some (.ptr b sz row (col + off)) := nr rfl
@[go_sem] theorem ok_int {k : IntKind} {n : Int} : (AVal.raw (.int k n)).cellOk = true := nr rfl
@[go_sem] theorem ok_bool {c : Bool} : (AVal.raw (.bool c)).cellOk = true := nr rfl
@[go_sem] theorem ok_str {c : ByteArray} : (AVal.raw (.string c)).cellOk = true := nr rfl
@[go_sem] theorem ok_rsl {a : Option Addr} {n c : Nat} : (AVal.raw (.slice a n c)).cellOk = true := nr rfl
@[go_sem] theorem ok_rptr {a : Option Addr} : (AVal.raw (.pointer a)).cellOk = true := nr rfl
@[go_sem] theorem ok_rmap {a : Option Nat} : (AVal.raw (.map a)).cellOk = true := nr rfl
@[go_sem] theorem ok_nilf : (AVal.raw .nilFunc).cellOk = true := nr rfl
@[go_sem] theorem ok_sl {b sz row len cap : Nat} : (AVal.sl b sz row len cap).cellOk = true := nr rfl
@[go_sem] theorem ok_sc {b sz row col len cap : Nat} : (AVal.sc b sz row col len cap).cellOk = true := nr rfl
@[go_sem] theorem ok_ro {sz : Nat} {es : List AVal} : (AVal.ro sz es).cellOk = true := nr rfl
@[go_sem] theorem ok_ptr {b sz row col : Nat} : (AVal.ptr b sz row col).cellOk = true := nr rfl
@[go_sem] theorem ok_rp {e : AVal} {col : Nat} : (AVal.rp e col).cellOk = true := nr rfl
@[go_sem] theorem ok_mp {b : Nat} : (AVal.mp b).cellOk = true := nr rfl
@[go_sem] theorem ok_fn {f : FuncId} {cs : List AVal} : (AVal.fn f cs).cellOk = true := nr rfl
@[go_sem] theorem ok_yd {l : Nat} : (AVal.yd l).cellOk = true := nr rfl
@[go_sem] theorem ok_z : (AVal.z).cellOk = true := nr rfl
@[go_sem] theorem ok_ub {c : UInt8} : (ub c).cellOk = true := nr rfl
@[go_sem] theorem ok_bytesA {l : List UInt8} : (bytesA l).cellOk = true := nr rfl
@[go_sem] theorem ok_intsA {l : List Int} : (intsA l).cellOk = true := nr rfl
@[go_sem] theorem mkPtr_eq {sz b : Nat} : mkPtr sz b = .ptr b sz 0 0 := nr rfl
@[go_sem] theorem mkSl_eq {sz n b : Nat} : mkSl sz n b = .sl b sz 0 n n := nr rfl
@[go_sem] theorem mkMap_eq {b : Nat} : mkMap b = .mp b := nr rfl

/-! the heap -/
@[go_sem] theorem set_get {b c : Nat} {o : AObj} : (H.set b o) c = if c = b then some o else H c := nr rfl
@[go_sem] theorem del_get {b c : Nat} : (H.del b) c = if c = b then none else H c := nr rfl
/-- A new block is another one than those that are known. -/
theorem set_none {b c : Nat} {o : AObj} : ((H.set b o) c = none) = ((c = b) = False ∧ (b = c) = False ∧ H c = none) := by
  unfold AHeap.set
  by_cases h : c = b
  · subst h; simp
  · simp [h, show ¬ b = c from fun e => h e.symm]
theorem delSet {b c : Nat} {o : AObj} : (H.set b o).del c = if b = c then H.del c else (H.del c).set b o := by
  funext d
  unfold AHeap.set AHeap.del
  by_cases h : b = c
  · subst h; by_cases hd : d = b <;> simp [hd]
  · by_cases hd : d = c
    · subst hd; simp [h, show ¬ d = b from fun e => h e.symm]
    · by_cases he : d = b <;> simp [hd, he, h]
theorem del_none {b : Nat} (h : H b = none) : H.del b = H := by
  funext d
  unfold AHeap.del
  by_cases hd : d = b
  · subst hd; simp [h]
  · simp [hd]
theorem AHeap.le_setN {H1 H2 : AHeap} {b : Nat} {o : AObj} (h : H1.le H2) (hb : H2 b = none) : H1.le (H2.set b o) := fun c x e => by
  have := h c x e
  unfold AHeap.set
  by_cases hc : c = b
  · subst hc; rw [hb] at this; cases this
  · simpa [hc] using this
/-- A block that the lesser heap does not know may be written. -/
theorem AHeap.le_set' {H1 H2 : AHeap} {b : Nat} {o : AObj} (h : H1.le H2) (hb : H1 b = none) : H1.le (H2.set b o) := fun c x e => by
  have := h c x e
  unfold AHeap.set
  by_cases hc : c = b
  · subst hc; rw [hb] at e; cases e
  · simpa [hc] using this
theorem AHeap.le_del {H1 H2 : AHeap} {b : Nat} (h : H1.le H2) (hb : H1 b = none) : H1.le (H2.del b) := fun c x e => by
  have := h c x e
  unfold AHeap.del
  by_cases hc : c = b
  · subst hc; rw [hb] at e; cases e
  · simpa [hc] using this
theorem AHeap.le_none {H1 H2 : AHeap} {b : Nat} (h : H1.le H2) (hb : H2 b = none) : H1 b = none := by
  cases e : H1 b with
  | none => rfl
  | some o => rw [h b o e] at hb; cases hb
theorem AHeap.le_trans' {H1 H2 H3 : AHeap} (h : H1.le H2) (k : H2.le H3) : H1.le H3 := fun b o e => k b o (h b o e)

/-! congruence: what runs later is left alone -/
@[congr] theorem loopP_congr {f : Regs → AHeap → AQ → Prop} {R' : Regs} (h : R = R') : loopP f R H Q = loopP f R' H Q := by rw [h]
@[congr] theorem callP_congr {f : FuncId} {l l' : List AVal} {H' : AHeap} (h : l = l') (k : H = H') : callP P f l H K = callP P f l' H' K := by rw [h, k]
@[congr] theorem yieldP_congr {r : Nat} {l l' : List AVal} {H' : AHeap} (h : l = l') (k : H = H') : yieldP P r l H K = yieldP P r l' H' K := by rw [h, k]
@[congr] theorem allocK_congr {mk : Nat → AVal} {o o' : AObj} {H' : AHeap} (h : o = o') (k : H = H') : allocK mk o K H = allocK mk o' K H' := by rw [h, k]
@[congr] theorem boxK_congr {sz : Nat} {o o' : Option AVal} (h : o = o') : boxK sz o K H = boxK sz o' K H := by rw [h]
@[congr] theorem bslK_congr {sz n : Nat} {o o' : Option (List AVal)} (h : o = o') : bslK sz n o K H = bslK sz n o' K H := by rw [h]
@[congr] theorem mksK_congr {sz bytes : Nat} {zero : AVal} {l l' c c' : Option Int} (h : l = l') (k : c = c') : mksK sz bytes zero l c K H = mksK sz bytes zero l' c' K H := by rw [h, k]
@[congr] theorem s2bK_congr {o o' : Option AVal} (h : o = o') : s2bK o K H = s2bK o' K H := by rw [h]
@[congr] theorem storeK_congr {n : Nat} {a a' v v' : Option AVal} (h : a = a') (k : v = v') : storeK n a v K H = storeK n a' v' K H := by rw [h, k]
@[congr] theorem andH_congr {o o' : Option AHeap} {v : AVal} (h : o = o') : andH o K v = andH o' K v := by rw [h]
@[congr] theorem appOp_congr {f : Nat → Nat → AVal → List AVal → (AVal → AHeap → Prop) → AHeap → Prop} {sz bytes : Nat} {x x' : Option AVal} {y y' : Option (List AVal)} (h : x = x') (k : y = y') : appOp f sz bytes x y K H = appOp f sz bytes x' y' K H := by rw [h, k]
@[congr] theorem appK_congr {sz bytes : Nat} {a a' : AVal} {ys ys' : List AVal} {H' : AHeap} (h : a = a') (k : ys = ys') (l : H = H') : appK sz bytes a ys K H = appK sz bytes a' ys' K H' := by rw [h, k, l]
@[congr] theorem appkK_congr {sz bytes : Nat} {a a' : AVal} {ys ys' : List AVal} {H' : AHeap} (h : a = a') (k : ys = ys') (l : H = H') : appkK sz bytes a ys K H = appkK sz bytes a' ys' K H' := by rw [h, k, l]
@[congr] theorem appnK_congr {sz bytes : Nat} {a a' : AVal} {ys ys' : List AVal} {H' : AHeap} (h : a = a') (k : ys = ys') (l : H = H') : appnK sz bytes a ys K H = appnK sz bytes a' ys' K H' := by rw [h, k, l]
@[congr] theorem appzK_congr {sz bytes : Nat} {zero : AVal} {x x' : Option AVal} {n n' : Option Int} (h : x = x') (k : n = n') : appzK sz bytes zero x n K H = appzK sz bytes zero x' n' K H := by rw [h, k]
@[congr] theorem cpyO_congr {sz : Nat} {x x' : Option AVal} {y y' : Option (List AVal)} (h : x = x') (k : y = y') : cpyO sz x y K H = cpyO sz x' y' K H := by rw [h, k]
@[congr] theorem mupK_congr {kk : KK} {m m' k k' v v' : Option AVal} (h1 : m = m') (h2 : k = k') (h3 : v = v') : mupK kk m k v K H = mupK kk m' k' v' K H := by rw [h1, h2, h3]
@[congr] theorem rngK_congr {m m' : Option AVal} (h : m = m') : rngK m K H = rngK m' K H := by rw [h]
@[congr] theorem nxtO_congr {m m' : Option AVal} (h : m = m') : nxtO m K H = nxtO m' K H := by rw [h]
@[congr] theorem nxtK_congr {m m' : AVal} (h : m = m') : nxtK m K H = nxtK m' K H := by rw [h]
@[congr] theorem eqnO_congr {neg : Bool} {m m' : Option AVal} (h : m = m') : eqnO neg m K H = eqnO neg m' K H := by rw [h]
@[congr] theorem eqnK_congr {neg : Bool} {m m' : AVal} (h : m = m') : eqnK neg m K H = eqnK neg m' K H := by rw [h]
@[congr] theorem callK_congr {f : FuncId} {l l' : Option (List AVal)} (h : l = l') : callK P f l K H = callK P f l' K H := by rw [h]
@[congr] theorem qcallK_congr {f : FuncId} {l l' : Option (List AVal)} (h : l = l') : qcallK P f l K H = qcallK P f l' K H := by rw [h]
@[congr] theorem calvK_congr {f f' : Option AVal} {l l' : Option (List AVal)} (h : f = f') (k : l = l') : calvK P f l K H = calvK P f' l' K H := by rw [h, k]
@[congr] theorem qcalvK_congr {f f' : Option AVal} {l l' : Option (List AVal)} (h : f = f') (k : l = l') : qcalvK P f l K H = qcalvK P f' l' K H := by rw [h, k]
@[congr] theorem ghP_congr : ghP N R H = ghP N R H := rfl
@[congr] theorem rfP_congr {keep ps : List Nat} {fa fb : Regs → AHeap → AQ → Prop} {g g' : Option AVal} (h : g = g') : rfP P keep ps fa fb g R H Q = rfP P keep ps fa fb g' R H Q := by rw [h]
end

section
variable {P : Program} {R : Regs} {H : AHeap} {Q : AQ} {N : Regs → AHeap → Prop} {K : AVal → AHeap → Prop}
@[go_sem] theorem boxK_some {sz : Nat} {v : AVal} : boxK sz (some v) K H = (v.cells.length = sz ∧ allocK (mkPtr sz) (.rows sz [v]) K H) := nr rfl
@[go_sem] theorem mksK_some {sz bytes : Nat} {zero : AVal} {l c : Int} : mksK sz bytes zero (some l) (some c) K H = (0 ≤ l ∧ l ≤ c ∧ room c.toNat bytes ∧ allocK (fun b => .sl b sz 0 l.toNat c.toNat) (.rows sz (List.replicate c.toNat zero)) K H) := nr rfl
@[go_sem] theorem room_eq {n bytes : Nat} : room n bytes = (n * bytes ≤ 2 ^ 40) := nr rfl
theorem opG_cases {c want : Bool} {d : Option Nat} {i : AI} (h1 : c = true → opG (some (.b true)) want P d i N R H) (h2 : c = false → opG (some (.b false)) want P d i N R H) : opG (some (.b c)) want P d i N R H := by
  cases c with
  | true => exact h1 rfl
  | false => exact h2 rfl
theorem ifP_cases {c : Bool} {f g : Regs → AHeap → AQ → Prop} (h1 : c = true → f R H Q) (h2 : c = false → g R H Q) : ifP c f g R H Q := by
  cases c with
  | true => exact h1 rfl
  | false => exact h2 rfl
theorem eqnK_ro {neg : Bool} {sz : Nat} {es : List AVal} (h0 : es = [] → ∀ c, K (.b c) H) (h1 : es ≠ [] → K (.b neg) H) : eqnK neg (.ro sz es) K H := by
  cases es with
  | nil => exact h0 rfl
  | cons e r => simp only [eqnK, isNil]; simpa using h1 (by simp)
theorem allocK_i {mk : Nat → AVal} {o : AObj} (h : ∀ b, H b = none → K (mk b) (H.set b o)) : allocK mk o K H := h

/-! what a function gives -/
/-- It gives a value, and leaves what was known of memory. -/
def Gives (P : Program) (f : FuncId) (args : List AVal) (v : AVal) : Prop := ∀ H, callP P f args H fun v1 H1 => GhV v1 H1 v H

theorem Gives.use {f : FuncId} {args : List AVal} {v : AVal} (h : Gives P f args v) (hk : K v H) : callP P f args H K := callP_post (h H) fun v1 H1 g => ⟨v, H, g, hk⟩
theorem Gives.q {f : FuncId} {args : List AVal} {v : AVal} (h : Gives P f args v) : QCall P f args H v := fun H' _ K hk => h.use hk
theorem Gives.lend {f : FuncId} {as as' : List AVal} {H1 : AHeap} {v : AVal} (h : Gives P f as' v) (hv : Bare v) (hg : GhA as H as' H1) (hk : K v H) : callP P f as H K :=
  callP_lend hg hv (h.use rfl) hk
theorem Gives.as {f : FuncId} {as as' : List AVal} {H1 : AHeap} {v : AVal} (h : Gives P f as' v) (hg : GhA as H as' H1) (hk : K v H1) : callP P f as H K :=
  callP_ghost hg (h.use hk)

theorem GhV.le {v : AVal} {H1 : AHeap} (h : H.le H1) : GhV v H1 v H := GhA.less h
theorem GhV.wk {v v' : AVal} {H1 : AHeap} (hv : Wk v v') (h : H.le H1) : GhV v H1 v' H := (GhA.wk (.cons hv .nil)).trans (GhA.less h)
theorem GhV.frz {b sz cap : Nat} {es : List AVal} {H1 : AHeap} (hb : H1 b = some (.rows sz es)) (hn : H b = none) (h : H.le H1) : GhV (.sl b sz 0 es.length cap) H1 (.ro sz es) H := by
  have := GhA.freezeTo (as := [.sl b sz 0 es.length cap]) (as' := [.ro sz es]) (H' := H) hb rfl (fun i a a' h1 h2 => by
    cases i with
    | zero =>
      simp at h1 h2
      subst h1; subst h2
      right
      simp [frzE, frzA, frzV]
    | succ i => simp at h1) (fun c o e => ⟨(fun ec => by subst ec; rw [hn] at e; cases e), .inl (h c o e)⟩)
  exact this
end

/-! an accumulator: nil, or a slice of one's own from its begin -/
structure Acc (H0 : AHeap) (sz : Nat) (xs : List AVal) (a : AVal) (H : AHeap) : Prop where
  le : H0.le H
  is : (xs = [] ∧ a = .nil) ∨ ∃ b cap, H0 b = none ∧ a = .sl b sz 0 xs.length cap ∧ H b = some (.rows sz xs)

theorem Acc.nil {H0 H : AHeap} {sz : Nat} (h : H0.le H) : Acc H0 sz [] .nil H := ⟨h, .inl ⟨rfl, rfl⟩⟩
theorem Acc.flat {H0 H : AHeap} {sz : Nat} {xs : List AVal} {a : AVal} (h : Acc H0 sz xs a H) : a.cells = [a] := by
  rcases h.is with ⟨_, rfl⟩ | ⟨b, cap, _, rfl, _⟩ <;> rfl
theorem Acc.len {H0 H : AHeap} {sz : Nat} {xs : List AVal} {a : AVal} (h : Acc H0 sz xs a H) : aLen a = some (xs.length : Int) := by
  rcases h.is with ⟨rfl, rfl⟩ | ⟨b, cap, _, rfl, _⟩ <;> rfl
theorem Acc.set {H0 H : AHeap} {sz : Nat} {xs : List AVal} {a : AVal} (h : Acc H0 sz xs a H) {c : Nat} {o : AObj} (hc : H c = none) : Acc H0 sz xs a (H.set c o) := by
  refine ⟨AHeap.le_setN h.le hc, ?_⟩
  rcases h.is with h1 | ⟨b, cap, h1, h2, h3⟩
  · exact .inl h1
  · refine .inr ⟨b, cap, h1, h2, ?_⟩
    rw [set_get, if_neg (fun e => by subst e; rw [h3] at hc; cases hc)]
    exact h3
theorem Acc.gives {H0 H : AHeap} {sz : Nat} {xs : List AVal} {a : AVal} (h : Acc H0 sz xs a H) : GhV a H (.ro sz xs) H0 := by
  rcases h.is with ⟨rfl, rfl⟩ | ⟨b, cap, h1, rfl, h3⟩
  · exact GhV.wk (wk_nil sz) h.le
  · exact GhV.frz h3 h1 h.le
theorem Acc.app {H0 H : AHeap} {sz bytes : Nat} {xs ys : List AVal} {a : AVal} {K : AVal → AHeap → Prop} (h : Acc H0 sz xs a H) (hr : (xs.length + ys.length) * bytes ≤ 2 ^ 40) (hok : okEs ys)
    (hk : ∀ a' H', Acc H0 sz (xs ++ ys) a' H' → K a' H') : appK sz bytes a ys K H := by
  rcases h.is with ⟨rfl, rfl⟩ | ⟨b, cap, h1, rfl, h3⟩
  · refine ⟨by simpa [room] using hr, fun e => hk _ _ ?_, fun e b cap hb hc => hk _ _ ?_⟩
    · subst e; exact Acc.nil h.le
    · exact ⟨AHeap.le_setN h.le hb, .inr ⟨b, cap, AHeap.le_none h.le hb, rfl, by simp [set_get]⟩⟩
  · simp only [appK, h3]
    refine ⟨trivial, trivial, trivial, trivial, hr, hok, fun b' cap' hb' hc' => hk _ _ ?_⟩
    have hle := AHeap.le_del h.le h1
    refine ⟨AHeap.le_setN hle ?_, .inr ⟨b', cap', ?_, by simp, by simp [set_get]⟩⟩
    · rcases hb' with ⟨rfl, _⟩ | hb'
      · simp [AHeap.del]
      · simp [AHeap.del, hb']
    · rcases hb' with ⟨rfl, _⟩ | hb'
      · exact h1
      · exact AHeap.le_none h.le hb'

theorem Acc.mono {H0 H H' : AHeap} {sz : Nat} {xs : List AVal} {a : AVal} (h : Acc H0 sz xs a H) (hl : H.le H') : Acc H0 sz xs a H' := by
  refine ⟨fun b o e => hl b o (h.le b o e), ?_⟩
  rcases h.is with h1 | ⟨b, cap, h1, h2, h3⟩
  · exact .inl h1
  · exact .inr ⟨b, cap, h1, h2, hl _ _ h3⟩
theorem Acc.cellOk {H0 H : AHeap} {sz : Nat} {xs : List AVal} {a : AVal} (h : Acc H0 sz xs a H) : a.cellOk = true := by
  rcases h.is with ⟨_, rfl⟩ | ⟨b, cap, _, rfl, _⟩ <;> rfl

/-! ghost steps -/
theorem gh_frzIn {N : Regs → AHeap → Prop} {R : Regs} {H : AHeap} {b sz : Nat} {es : List AVal} (hb : H b = some (.rows sz es)) {c : Nat} {o : AObj} (hc : H c = some o) (hne : c ≠ b) (h : N R ((H.del b).set c (frzO b sz es o))) : ghP N R H := by
  refine ⟨_, _, Gh.freezeTo hb (fun t a e => .inl e) (fun d o' e => ?_), h⟩
  unfold AHeap.set AHeap.del at e
  by_cases hd : d = c
  · subst hd
    simp only [if_true] at e
    cases e
    exact ⟨hne, .inr ⟨o, hc, rfl⟩⟩
  · simp only [hd, if_false] at e
    by_cases hdb : d = b
    · simp [hdb] at e
    · simp only [hdb, if_false] at e
      exact ⟨hdb, .inl e⟩
theorem gh_frz {N : Regs → AHeap → Prop} {l : List (Nat × AVal)} {H : AHeap} {b sz : Nat} {es : List AVal} (hb : H b = some (.rows sz es)) (h : N (ofL (l.map fun p => (p.1, frzE b sz es p.2))) (H.del b)) : ghP N (ofL l) H := by
  refine ⟨_, _, Gh.freezeTo hb (fun t a e => .inr ?_) (fun d o' e => ?_), h⟩
  · clear h
    induction l with
    | nil => simp [ofL] at e
    | cons p l ih =>
      simp only [List.map_cons, ofL] at e ⊢
      by_cases ht : t = p.1
      · simp only [ht, if_true] at e ⊢
        cases e
        exact ⟨_, rfl, rfl⟩
      · simp only [ht, if_false] at e ⊢
        exact ih e
  · unfold AHeap.del at e
    by_cases hdb : d = b
    · simp [hdb] at e
    · simp only [hdb, if_false] at e
      exact ⟨hdb, .inl e⟩
theorem gh_skip {N : Regs → AHeap → Prop} {R : Regs} {H : AHeap} (h : N R H) : ghP N R H := ⟨R, H, Gh.refl R H, h⟩

/-! loops -/
theorem loop_ind {P : Program} {c : ACode} {Q : AQ} {α : Type} (I : α → Regs → AHeap → Prop) (μ : α → Nat)
    (round : ∀ x R H (X : Regs → AHeap → Prop), I x R H → (∀ y R' H', μ y < μ x → I y R' H' → X R' H') → symb P c R H (loopK X Q)) : ∀ x {R H}, I x R H → loopC P c Q R H := by
  have key : ∀ k x R H, μ x = k → I x R H → loopC P c Q R H := by
    intro k
    induction k using Nat.strongRecOn with
    | _ k ih =>
      intro x R H hk hI
      exact loop_unfold (round x R H _ hI (fun y R' H' hlt hy => ih (μ y) (hk ▸ hlt) y R' H' rfl hy))
  exact fun x R H hI => key _ x R H rfl hI

/-- Over the places of a list. -/
theorem loop_upto {P : Program} {c : ACode} {Q : AQ} (n : Nat) (I : Nat → Regs → AHeap → Prop)
    (round : ∀ k R H (X : Regs → AHeap → Prop), k ≤ n → I k R H → (∀ R' H', k < n → I (k + 1) R' H' → X R' H') → symb P c R H (loopK X Q)) {k : Nat} {R : Regs} {H : AHeap} (hk : k ≤ n) (h : I k R H) : loopC P c Q R H :=
  loop_ind (fun k R H => k ≤ n ∧ I k R H) (fun k => n - k) (fun k R H X ⟨h1, h2⟩ ih => round k R H X h1 h2 (fun R' H' hlt hI => ih (k + 1) R' H' (by omega) ⟨by omega, hI⟩)) k ⟨hk, h⟩

theorem wrap_up {k : Nat} (h : k < 2 ^ 62) : IntKind.i64.wrap ((k : Int) + 1) = ((k + 1 : Nat) : Int) := by
  rw [wrap_nat (by omega) (by omega)]; rfl

theorem rep2 {α : Type} {x : α} : List.replicate 2 x = [x, x] := nr rfl
theorem rep3 {α : Type} {x : α} : List.replicate 3 x = [x, x, x] := nr rfl
theorem rep4 {α : Type} {x : α} : List.replicate 4 x = [x, x, x, x] := nr rfl
theorem rep5 {α : Type} {x : α} : List.replicate 5 x = [x, x, x, x, x] := nr rfl
theorem rep6 {α : Type} {x : α} : List.replicate 6 x = [x, x, x, x, x, x] := nr rfl
theorem rep7 {α : Type} {x : α} : List.replicate 7 x = [x, x, x, x, x, x, x] := nr rfl
theorem rep8 {α : Type} {x : α} : List.replicate 8 x = [x, x, x, x, x, x, x, x] := nr rfl
attribute [go_sem] List.replicate_zero List.replicate_one rep2 rep3 rep4 rep5 rep6 rep7 rep8 List.set_cons_zero List.set_cons_succ List.length_set List.all_cons List.all_nil Bool.and_true Bool.true_and fillA_one updCell_whole updCell_one List.length_cons List.length_nil List.length_map List.length_append Option.bind_some Option.map_some true_and and_true List.map_cons List.map_nil List.getElem?_cons_zero List.getElem?_cons_succ Int.toNat_natCast Int.ofNat_lt Int.ofNat_le Int.natCast_nonneg List.getElem?_map Nat.zero_add
end Heron
end
