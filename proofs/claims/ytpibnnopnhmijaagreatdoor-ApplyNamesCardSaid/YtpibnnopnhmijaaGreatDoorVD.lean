/-
  THE VALUE-LEVEL INTERPRETER 'Vi', the machine: the interpreter's code as a machine with a stack of what is still to be done, so that a text can be walked by rewriting.
-/
import Derived.Test.YtpibnnopnhmijaaGreatDoorVC
import Derived.KernelRfl
import Derived.OpenShut
import Derived.ReadAgain
import Derived.JoinedOf
import Derived.JoinedAt
import Derived.RowKit3
import Derived.ChangeSame
import Derived.SizedLaws
import Derived.RecoverIn
set_option linter.unusedSimpArgs false
set_option linter.unusedVariables false
namespace Go.Vi
open Go
structure Mc where
  call : CallFn
  E : Env
  C : FuncId → Option (List V → Option V)
  fuel : Nat
inductive K where
  | top
  | seq (b : Code) (k : K)
  | blk (id : Nat) (k : K)
  | lp (b : Code) (n : Nat) (k : K)
def evM (M : Mc) (c : Code) (s : St) : Option (Ex × St) := evC M.call M.E M.C M.fuel c s
def K.back (M : Mc) : K → Option (Ex × St) → Option (Ex × St)
  | .top, r => r
  | .seq b k, r => k.back M (match r with | some (.norm, s') => evM M b s' | r => r)
  | .blk id k, r => k.back M (match r with | some (.exit i, s') => some (if i = id then .norm else .exit i, s') | r => r)
  | .lp b n k, r => k.back M (match r with | some (.norm, s') => iter (evM M b) n s' | r => r)
def R (M : Mc) (c : Code) (k : K) (s : St) : Option (Ex × St) := k.back M (evM M c s)
def X (M : Mc) (e : Ex) (k : K) (s : St) : Option (Ex × St) := k.back M (some (e, s))
def L (M : Mc) (b : Code) (n : Nat) (k : K) (s : St) : Option (Ex × St) := k.back M (iter (evM M b) n s)
def RO (M : Mc) (ops : Array Oper) (l : List Oper) (k : K) (s : St) : Option (Ex × St) := k.back M ((evOps M.call M.E M.C ops l s).map fun q => (q.1, tidy M.E q.2))
def RV (M : Mc) (ops : Array Oper) (d : Option Tmp) (l : List Oper) (k : K) (r : Option Res) : Option (Ex × St) :=
  k.back M ((match r with
    | none => none
    | some (.val v s') => (setD M.E d v s').bind (evOps M.call M.E M.C ops l)
    | some (.pan v s') => some (.pan v, s') : Option (Ex × St)).map fun q => (q.1, tidy M.E q.2))
variable {M : Mc} {k : K} {s : St}
theorem R_seq {a b : Code} : R M (.seq a b) k s = R M a (.seq b k) s := by
  unfold R evM
  conv => lhs; unfold evC
  simp only [K.back, evM]
  rcases evC M.call M.E M.C M.fuel a s with _ | ⟨e, s'⟩
  · rfl
  · cases e <;> rfl
theorem R_skip : R M .skip k s = X M .norm k s := rfl
theorem R_label {l} : R M (.label l) k s = X M .norm k s := rfl
theorem R_ret : R M .ret k s = X M .ret k s := rfl
theorem R_exit {i} : R M (.exit i) k s = X M (.exit i) k s := rfl
theorem R_scope {b} : R M (.scope b) k s = R M b k s := rfl
theorem R_block {id b} : R M (.block id b) k s = R M b (.blk id k) s := by
  unfold R evM
  conv => lhs; unfold evC
  simp only [K.back]
  rcases evC M.call M.E M.C M.fuel b s with _ | ⟨e, s'⟩
  · rfl
  · cases e <;> rfl
theorem R_loop {b} : R M (.loop b) k s = L M b M.fuel k s := rfl
def Cnd (M : Mc) (v : V) (a b : Code) (k : K) (s : St) : Option (Ex × St) :=
  match v with
  | .bool t => if t then R M a k s else R M b k s
  | _ => k.back M none
theorem Cnd_bool {a b t} : Cnd M (.bool t) a b k s = if t = true then R M a k s else R M b k s := rfl
theorem R_cond' {c a b} : R M (.cond c a b) k s = Cnd M (evalO s c) a b k (passed M.E c s) := by
  unfold R evM Cnd
  conv => lhs; unfold evC
  split
  · rename_i t h
    rw [h]
    cases t <;> rfl
  · rename_i h
    split
    · rename_i t h2; exact absurd h2 (h t)
    · rfl
theorem R_region {id ops} : R M (.region id ops false) k s = RO M ops ops.toList k s := rfl
theorem X_top {e} : X M e .top s = some (e, s) := rfl
theorem X_seq {b} : X M .norm (.seq b k) s = R M b k s := rfl
theorem X_seq_ret {b} : X M .ret (.seq b k) s = X M .ret k s := rfl
theorem X_seq_exit {b i} : X M (.exit i) (.seq b k) s = X M (.exit i) k s := rfl
theorem X_seq_pan {b v} : X M (.pan v) (.seq b k) s = X M (.pan v) k s := rfl
theorem X_blk {id} : X M .norm (.blk id k) s = X M .norm k s := rfl
theorem X_blk_ret {id} : X M .ret (.blk id k) s = X M .ret k s := rfl
theorem X_blk_pan {id v} : X M (.pan v) (.blk id k) s = X M (.pan v) k s := rfl
theorem X_blk_exit {id i} : X M (.exit i) (.blk id k) s = if i = id then X M .norm k s else X M (.exit i) k s := by
  unfold X
  simp only [K.back]
  split <;> rfl
theorem X_lp {b n} : X M .norm (.lp b n k) s = L M b n k s := rfl
theorem X_lp_ret {b n} : X M .ret (.lp b n k) s = X M .ret k s := rfl
theorem X_lp_exit {b n i} : X M (.exit i) (.lp b n k) s = X M (.exit i) k s := rfl
theorem X_lp_pan {b n v} : X M (.pan v) (.lp b n k) s = X M (.pan v) k s := rfl
theorem L_succ {b n} : L M b (n + 1) k s = R M b (.lp b n k) s := by
  unfold L R
  conv => lhs; unfold iter
  simp only [K.back]
  rcases evM M b s with _ | ⟨e, s'⟩
  · rfl
  · cases e <;> rfl
theorem RV_val {ops d l v s'} (hd : d < M.E.n) : RV M ops (some d) l k (some (.val v s')) = RO M ops l k { s' with τ := tset s'.τ d v } := by
  unfold RV RO
  simp only [setD, if_pos hd, Option.bind_some]
theorem RV_val_none {ops l v s'} : RV M ops none l k (some (.val v s')) = RO M ops l k s' := rfl
theorem RV_pan {ops d l v s'} : RV M ops d l k (some (.pan v s')) = X M (.pan v) k (tidy M.E s') := rfl
theorem RO_op {ops d op ty pos af r} (h : yieldOf s { dst := d, op := op, type := ty, pos := pos, after := af, guard := none } = none) (hm : meltOf M.E { dst := d, op := op, type := ty, pos := pos, after := af, guard := none } s = none) :
    RO M ops ({ dst := d, op := op, type := ty, pos := pos, after := af, guard := none } :: r) k s = RV M ops d r k (aop M.call M.E M.C (d.getD M.E.n) op s) := by
  unfold RO RV
  conv => lhs; unfold evOps
  simp only [wantedV, hm, h]
  congr 2
theorem tkeep_get : ∀ (τ : List (Nat × V)) (ks : List Nat) (t : Nat), tget (tkeep τ ks) t = if ks.contains t = true then tget τ t else .junk
  | [], ks, t => by simp [tkeep, tget]
  | (k, u) :: r, ks, t => by
    simp only [tkeep]
    split
    · simp only [tget]
      rw [tkeep_get r ks t]
      split
      · rename_i h e; subst e; rw [if_pos h]
      · rfl
    · rename_i h
      rw [tkeep_get r ks t]
      simp only [tget]
      split
      · split
        · rename_i e; subst e; exact absurd ‹_› h
        · rfl
      · rfl
theorem tdrop_get : ∀ (τ : List (Nat × V)) (d t : Nat), tget (tdrop τ d) t = if t = d then .junk else tget τ t
  | [], d, t => by simp [tdrop, tget]
  | (k, u) :: r, d, t => by
    simp only [tdrop]
    split
    · rename_i h; subst h
      rw [tdrop_get r d t]
      simp only [tget]
      split <;> rfl
    · simp only [tget]
      rw [tdrop_get r d t]
      split
      · rename_i h e; subst e; rw [if_neg (fun e => h e.symm)]
      · rfl
def Fin (M : Mc) (rs : List ResultVar) : Option (Ex × St) → Option COut
  | some (.norm, s) | some (.ret, s) => ((resV M.E s rs).bind (exports M.E s)).map fun vs => .ret (tupV vs)
  | some (.pan v, _) => some (.pan v)
  | _ => none
theorem X_ret : ∀ k : K, X M .ret k s = some (.ret, s)
  | .top => rfl
  | .seq b k => by rw [X_seq_ret]; exact X_ret k
  | .blk _ k => by rw [X_blk_ret]; exact X_ret k
  | .lp _ _ k => by rw [X_lp_ret]; exact X_ret k
theorem X_pan {v} : ∀ k : K, X M (.pan v) k s = some (.pan v, s)
  | .top => rfl
  | .seq b k => by rw [X_seq_pan]; exact X_pan k
  | .blk _ k => by rw [X_blk_pan]; exact X_pan k
  | .lp _ _ k => by rw [X_lp_pan]; exact X_pan k
theorem Fin_ret {rs} : Fin M rs (some (.ret, s)) = ((resV M.E s rs).bind (exports M.E s)).map fun vs => .ret (tupV vs) := rfl
theorem Fin_nrm {rs} : Fin M rs (some (.norm, s)) = ((resV M.E s rs).bind (exports M.E s)).map fun vs => .ret (tupV vs) := rfl
theorem Fin_pan {rs v} : Fin M rs (some (.pan v, s)) = some (.pan v) := rfl
def mcOf (C : Ctx) (g : FuncId) (fn : Func) (n : Nat) : Mc := ⟨evF C n, envOf C g fn 0, C.hand, n⟩
def sub : List Nat → Code → Code
  | [], c => c
  | 0 :: p, .seq a _ => sub p a
  | _ :: p, .seq _ b => sub p b
  | 0 :: p, .cond _ a _ => sub p a
  | _ :: p, .cond _ _ b => sub p b
  | _ :: p, .block _ b => sub p b
  | _ :: p, .scope b => sub p b
  | _ :: p, .loop b => sub p b
  | _, c => c
theorem evF_of {C : Ctx} {g : FuncId} {fn : Func} {b : Code} {args : List V} {n : Nat} {out : COut} (hf : C.P.funcs[g]? = some fn) (hb : fn.body = some b) (hl : args.length ≤ fn.ntmps)
    (h : Fin (mcOf C g fn n) fn.results.toList (R (mcOf C g fn n) b .top ⟨params 0 args, [], fun _ => none, 0⟩) = some out) : ∃ c' O', evF C (n + 1) g args 0 0 (fun _ => none) = some (out, c', O') := by
  unfold R evM K.back mcOf at h
  dsimp only at h
  unfold evF
  simp only [hf, hb, if_pos hl]
  generalize evC (evF C n) (envOf C g fn 0) C.hand n b { τ := params 0 args, L := [], O := fun _ => none, c := 0 } = r at h
  rcases r with _ | ⟨e, s⟩
  · cases h
  · cases e with
    | norm =>
      simp only [Fin, Option.map_eq_some_iff] at h
      obtain ⟨vs, h, rfl⟩ := h
      simp only [h]
      exact ⟨_, _, rfl⟩
    | ret =>
      simp only [Fin, Option.map_eq_some_iff] at h
      obtain ⟨vs, h, rfl⟩ := h
      simp only [h]
      exact ⟨_, _, rfl⟩
    | pan v =>
      simp only [Fin, Option.some.injEq] at h
      subst h
      exact ⟨_, _, rfl⟩
    | exit i => cases h
section ops
variable {ops : Array Oper} {r : List Oper} {d : Option Tmp} {ty : TypeId} {pos : String} {af : Array Edge}
theorem meltOf_no {d x s} (hf : M.E.frz.contains d = false) : meltOf M.E { dst := some d, op := .move x, type := ty, pos := pos, after := af, guard := none } s = none := by
  unfold meltOf
  cases x <;> simp only [hf, Bool.false_eq_true, if_false]
theorem RO_melt {d j} (hf : M.E.frz.contains d = true) (hd : d < M.E.n) {v : V} (h : frz M.E s (tget s.τ j) = some v) : RO M ops ({ dst := some d, op := .move (.tmp j), type := ty, pos := pos, after := af, guard := none } :: r) k s = RO M ops r k { St.dels M.E (refs (tget s.τ j)) s with τ := tset (tset s.τ j v) d v } := by
  have hm : meltOf M.E { dst := some d, op := .move (.tmp j), type := ty, pos := pos, after := af, guard := none } s = some { St.dels M.E (refs (tget s.τ j)) s with τ := tset (tset s.τ j v) d v } := by
    unfold meltOf
    simp only [hf, if_true, if_pos hd, h, Option.map_some]
  unfold RO
  conv => lhs; unfold evOps
  simp only [wantedV, hm]
theorem RO_move {d x} (hd : d < M.E.n) (hf : M.E.frz.contains d = false) : RO M ops ({ dst := some d, op := .move x, type := ty, pos := pos, after := af, guard := none } :: r) k s = RO M ops r k { s with τ := tset s.τ d (evalO s x) } := by
  rw [RO_op rfl (meltOf_no hf)]; exact RV_val hd
theorem RO_assign {d x} : RO M ops ({ dst := some d, op := .assign x, type := ty, pos := pos, after := af, guard := none } :: r) k s = RV M ops (some d) r k ((assignTo M.E d (evalO s x) s).map fun q => .val q.1 q.2) := RO_op rfl rfl
theorem RO_bin {o t x y u} : RO M ops ({ dst := d, op := .binOp o t x y u, type := ty, pos := pos, after := af, guard := none } :: r) k s = RV M ops d r k (valOf s (binW M.E.P o t y (evalO s x) (evalO s y))) := RO_op rfl rfl
theorem RO_un {o t x} : RO M ops ({ dst := d, op := .unOp o t x, type := ty, pos := pos, after := af, guard := none } :: r) k s = RV M ops d r k (valOf s (unV o (evalO s x))) := RO_op rfl rfl
theorem RO_load {t x} : RO M ops ({ dst := d, op := .load t x, type := ty, pos := pos, after := af, guard := none } :: r) k s = RV M ops d r k (valOf s ((cellsAt M.E s (evalO s x)).bind (readT M.E.P t))) := RO_op rfl rfl
theorem RO_store {t p x} : RO M ops ({ dst := d, op := .store t p x, type := ty, pos := pos, after := af, guard := none } :: r) k s = RV M ops d r k ((storeAt M.E t (evalO s p) (evalO s x) s).map fun s' => .val .junk s') := RO_op rfl rfl
theorem RO_len {x t} : RO M ops ({ dst := d, op := .call { callee := .builtin .len, args := #[x], argTypes := #[t] }, type := ty, pos := pos, after := af, guard := none } :: r) k s =
    RV M ops d r k (builtinV M.E .len (d.getD M.E.n) [t] [evalO s x] s) := RO_op rfl rfl
theorem RO_min {xs ts} : RO M ops ({ dst := d, op := .call { callee := .builtin .min, args := xs, argTypes := ts }, type := ty, pos := pos, after := af, guard := none } :: r) k s =
    RV M ops d r k (builtinV M.E .min (d.getD M.E.n) ts.toList (evalOs s xs.toList) s) := RO_op rfl rfl
theorem RO_max {xs ts} : RO M ops ({ dst := d, op := .call { callee := .builtin .max, args := xs, argTypes := ts }, type := ty, pos := pos, after := af, guard := none } :: r) k s =
    RV M ops d r k (builtinV M.E .max (d.getD M.E.n) ts.toList (evalOs s xs.toList) s) := RO_op rfl rfl
theorem RO_append {x y t u} : RO M ops ({ dst := d, op := .call { callee := .builtin .append, args := #[x, y], argTypes := #[t, u] }, type := ty, pos := pos, after := af, guard := none } :: r) k s =
    RV M ops d r k (if rowT M.E.P u = true then (appendV M.E (d.getD M.E.n) t (evalO s x) (evalO s y) s).map fun q => .val q.1 q.2 else none) := RO_op rfl rfl
theorem RO_copy {x y t u} : RO M ops ({ dst := d, op := .call { callee := .builtin .copy, args := #[x, y], argTypes := #[t, u] }, type := ty, pos := pos, after := af, guard := none } :: r) k s =
    RV M ops d r k ((copyV M.E t (evalO s x) (evalO s y) s).map fun q => .val (.int .i64 (q.1 : Nat)) q.2) := RO_op rfl rfl
def RCl (M : Mc) (ops : Array Oper) (d : Option Tmp) (l : List Oper) (k : K) (f : V) (args : List V) (s : St) : Option (Ex × St) :=
  match f with
  | .mref q ver => k.back M ((match M.call.rnd q ver args (M.E.lvl + 1) s.c (s.heap M.E) with
      | some (b, c', O') => (setD M.E d (.bool b) (back M.E s c' O')).bind (evOps M.call M.E M.C ops l)
      | none => none : Option (Ex × St)).map fun q => (q.1, tidy M.E q.2))
  | f => RV M ops d l k (callV M.call M.E M.C (d.getD M.E.n) f args s)
theorem RCl_fn {g first caps args} : RCl M ops d r k (.fn g first caps) args s = RV M ops d r k (callV M.call M.E M.C (d.getD M.E.n) (.fn g first caps) args s) := rfl
theorem RO_call' {f xs ts} : RO M ops ({ dst := d, op := .call { callee := .value f, args := xs, argTypes := ts }, type := ty, pos := pos, after := af, guard := none } :: r) k s = RCl M ops d r k (evalO s f) (evalOs s xs.toList) s := by
  unfold RCl
  split
  · rename_i q ver h
    unfold RO
    conv => lhs; unfold evOps
    simp only [wantedV, meltOf, yieldOf, h]
    rfl
  · rename_i v hv
    rw [RO_op (hm := rfl)]
    · rfl
    · simp only [yieldOf]
def gslot : List Oper → Nat → Option Tmp
  | [], _ => none
  | o :: _, 0 => o.dst
  | _ :: r, j + 1 => gslot r j
theorem gslot_zero {o : Oper} {l : List Oper} : gslot (o :: l) 0 = o.dst := rfl
theorem gslot_succ {o : Oper} {l : List Oper} {j : Nat} : gslot (o :: l) (j + 1) = gslot l j := rfl
theorem gslot_eq : ∀ (l : List Oper) (j : Nat), (l[j]?).bind (·.dst) = gslot l j
  | [], _ => rfl
  | o :: l, 0 => rfl
  | o :: l, j + 1 => by simp only [List.getElem?_cons_succ, gslot]; exact gslot_eq l j
def RG (M : Mc) (ops : Array Oper) (o : Oper) (r : List Oper) (k : K) (s : St) (t : Option Tmp) (w : Bool) : Option (Ex × St) :=
  match (match t with | some t => (match tget s.τ t with | .bool b => some (b == w) | .tup [] => some false | _ => none) | none => none) with
  | some true => RO M ops ({ o with guard := none } :: r) k s
  | some false => k.back M (((setD M.E o.dst (.tup []) s).bind (evOps M.call M.E M.C ops r)).map fun q => (q.1, tidy M.E q.2))
  | none => k.back M none
def RGb (M : Mc) (ops : Array Oper) (o : Oper) (r : List Oper) (k : K) (s : St) (v : V) (w : Bool) : Option (Ex × St) :=
  match v with
  | .bool b => if b = w then RO M ops ({ o with guard := none } :: r) k s else RV M ops o.dst r k (some (.val (.tup []) s))
  | .tup [] => RV M ops o.dst r k (some (.val (.tup []) s))
  | _ => k.back M none
theorem RO_guard {op j w} : RO M ops ({ dst := d, op := op, type := ty, pos := pos, after := af, guard := some (j, w) } :: r) k s = RG M ops { dst := d, op := op, type := ty, pos := pos, after := af, guard := none } r k s (gslot ops.toList j) w := by
  unfold RO RG
  conv => lhs; unfold evOps
  simp only [wantedV]
  rw [← gslot_eq, Array.getElem?_toList]
  generalize (ops[j]?).bind (fun x => x.dst) = x
  cases x with
  | none => rfl
  | some t =>
    dsimp only
    generalize tget s.τ t = u
    cases u with
    | bool b => cases b <;> cases w <;> rfl
    | tup vs => cases vs <;> rfl
    | _ => rfl
theorem RG_some {o t w} : RG M ops o r k s (some t) w = RGb M ops o r k s (tget s.τ t) w := by
  unfold RG RGb
  dsimp only
  generalize tget s.τ t = u
  cases u with
  | bool b => cases b <;> cases w <;> rfl
  | tup vs => cases vs <;> rfl
  | _ => rfl
theorem RGb_bool {o w b} : RGb M ops o r k s (.bool b) w = if b = w then RO M ops ({ o with guard := none } :: r) k s else RV M ops o.dst r k (some (.val (.tup []) s)) := rfl
theorem RGb_off {o w} : RGb M ops o r k s (.tup []) w = RV M ops o.dst r k (some (.val (.tup []) s)) := rfl
theorem RO_alloc {t} : RO M ops ({ dst := d, op := .alloc t, type := ty, pos := pos, after := af, guard := none } :: r) k s = RV M ops d r k (match zeroT M.E.P t with
    | some z => if (cellsV z).all leafV = true then (let q := newVarV M.E (d.getD M.E.n) (cellsV z) s; some (.val q.1 q.2)) else none
    | none => none) := RO_op rfl rfl
theorem RO_box {t x} : RO M ops ({ dst := d, op := .box t x, type := ty, pos := pos, after := af, guard := none } :: r) k s = RV M ops d r k (if (cellsV (evalO s x)).all leafV = true then boxV M.E (d.getD M.E.n) (cellsV (evalO s x)) s else none) := RO_op rfl rfl
theorem RO_pick {c a b} : RO M ops ({ dst := d, op := .pick c a b, type := ty, pos := pos, after := af, guard := none } :: r) k s = RV M ops d r k
    (match evalO s c with | .bool t => some (.val (if t then evalO s a else evalO s b) s) | _ => none) := RO_op rfl rfl
theorem RO_build {t ps} : RO M ops ({ dst := d, op := .build t ps, type := ty, pos := pos, after := af, guard := none } :: r) k s = RV M ops d r k
    (match structT M.E.P t, zeroT M.E.P t with
    | true, some z => if (cellsV z).all leafV = true then valOf s ((fillE M.E.P t (cellsV z) (evalPs s ps.toList)).map .agg) else none
    | _, _ => none) := RO_op rfl rfl
theorem RO_buildSlice {t n ps} : RO M ops ({ dst := d, op := .buildSlice t n ps, type := ty, pos := pos, after := af, guard := none } :: r) k s = RV M ops d r k
    (match elemT M.E.P t with
    | some e => match zeroT M.E.P e, frzs M.E s (evalOs s (ps.toList.map (·.2))) with
      | some z, some qs =>
        if n * szT M.E.P e ≤ 16777216 ∧ (roomOk M.E.P e n && fitsE M.E.P e z) = true then
          (fillS M.E.P e (List.replicate n z) (zipP (evalPs s ps.toList) qs)).map fun es =>
            let q := newArr M.E (d.getD M.E.n) (szT M.E.P e) es (St.dels M.E (refsL (evalOs s (ps.toList.map (·.2)))) s)
            .val q.1 q.2
        else none
      | _, _ => none
    | none => none) := RO_op rfl rfl
theorem RO_nilCheck {x} : RO M ops ({ dst := d, op := .nilCheck x, type := ty, pos := pos, after := af, guard := none } :: r) k s = RV M ops d r k
    (match evalO s x with
    | .ptr k v i off => some (.val (.ptr k v i off) s)
    | .iptr cs => some (.val (.iptr cs) s)
    | .fn (.func g) a b => some (.val (.fn (.func g) a b) s)
    | _ => none) := RO_op rfl rfl
theorem RO_convert {a b x} : RO M ops ({ dst := d, op := .convert a b x, type := ty, pos := pos, after := af, guard := none } :: r) k s = RV M ops d r k
    (match evalO s x with
    | .int _ n => if hasT M.E.P a then valOf s (convI M.E.P b n) else none
    | .str u => if strT M.E.P b && strT M.E.P a then some (.val (.str u) s) else valOf s (convB M.E a b (.str u) s)
    | y => valOf s (convB M.E a b y s)) := RO_op rfl rfl
theorem RO_makeInterface {t x} : RO M ops ({ dst := d, op := .makeInterface t x, type := ty, pos := pos, after := af, guard := none } :: r) k s = RV M ops d r k
    (if concT M.E.P t then some (.val (.iface t (evalO s x)) s) else none) := RO_op rfl rfl
theorem RO_makeFunc {f a b} : RO M ops ({ dst := d, op := .makeFunc f a b, type := ty, pos := pos, after := af, guard := none } :: r) k s = RV M ops d r k
    (some (.val (.fn f (evalOs s a.toList) (evalOs s b.toList)) s)) := RO_op rfl rfl
theorem RO_makeSlice {t l c} : RO M ops ({ dst := d, op := .makeSlice t l c, type := ty, pos := pos, after := af, guard := none } :: r) k s = RV M ops d r k
    (match elemT M.E.P t with
    | some e => match zeroT M.E.P e, evalO s l, evalO s c with
      | some z, .int _ n, .int _ m => if 0 ≤ n ∧ n ≤ m ∧ m ≤ 9223372036854775807 ∧ (roomOk M.E.P e m.toNat && fitsE M.E.P e z) = true then (let q := newArr M.E (d.getD M.E.n) (szT M.E.P e) (List.replicate n.toNat z) s; some (.val q.1 q.2)) else none
      | _, _, _ => none
    | none => none) := RO_op rfl rfl
theorem RO_slice {t x lo hi} : RO M ops ({ dst := d, op := .slice t x lo hi none, type := ty, pos := pos, after := af, guard := none } :: r) k s = RV M ops d r k
    (valOf s (sliceA M.E t (evalO s x) (lo.map (evalO s)) (hi.map (evalO s)) s)) := RO_op rfl rfl
theorem RO_fieldAddr {t x j} : RO M ops ({ dst := d, op := .fieldAddr t x j, type := ty, pos := pos, after := af, guard := none } :: r) k s = RV M ops d r k
    (match fldT M.E.P t j with
    | some (off, u) => if szT M.E.P u = 0 then none else match evalO s x with
      | .ptr k v i o => some (.val (.ptr k v i (o + off)) s)
      | .iptr cs => if off ≤ cs.length then some (.val (.iptr (cs.drop off)) s) else none
      | _ => none
    | none => none) := RO_op rfl rfl
theorem RO_field {t x j} : RO M ops ({ dst := d, op := .field t x j, type := ty, pos := pos, after := af, guard := none } :: r) k s = RV M ops d r k
    (match fldT M.E.P t j, evalO s x with
    | some (off, u), .agg cs => valOf s (readT M.E.P u (cs.drop off))
    | _, _ => none) := RO_op rfl rfl
theorem RO_indexAddr {t x i} : RO M ops ({ dst := d, op := .indexAddr t x i, type := ty, pos := pos, after := af, guard := none } :: r) k s = RV M ops d r k
    (match evalO s i with
    | .int _ n => if 0 ≤ n then
        match elemT M.E.P t, evalO s x with
        | some e, .lst es => match es[n.toNat]? with
          | some v => if fitsE M.E.P e v then some (.val (.iptr (cellsV v)) s) else none
          | none => none
        | some e, .ref k ver off len => match s.obj M.E k ver with
          | some (.arr sz _) => if n < len ∧ sz = szT M.E.P e ∧ (aggT M.E.P e).isSome = true then some (.val (.ptr k ver (off + n.toNat) 0) s) else none
          | _ => none
        | _, y => valOf s (idxA M.E.P t y n)
      else none
    | _ => none) := RO_op rfl rfl
theorem RO_index {t x i} : RO M ops ({ dst := d, op := .index t x i, type := ty, pos := pos, after := af, guard := none } :: r) k s = RV M ops d r k
    (match evalO s i, evalO s x with
    | .int _ n, .str b => if strT M.E.P t = true ∧ 0 ≤ n then valOf s ((b[n.toNat]?).map fun u => .int .u8 u.toNat) else none
    | _, _ => none) := RO_op rfl rfl
theorem RO_extract {x j} : RO M ops ({ dst := d, op := .extract x j, type := ty, pos := pos, after := af, guard := none } :: r) k s = RV M ops d r k
    (match evalO s x with
    | .tup vs => valOf s vs[j]?
    | _ => none) := RO_op rfl rfl
theorem RO_panic {x} : RO M ops ({ dst := d, op := .panic x, type := ty, pos := pos, after := af, guard := none } :: r) k s = RV M ops d r k
    (match evalO s x with
    | .iface t v => some (.pan (.iface t v) s)
    | _ => none) := RO_op rfl rfl
theorem RO_makeMap {t} : RO M ops ({ dst := d, op := .makeMap t none, type := ty, pos := pos, after := af, guard := none } :: r) k s = RV M ops d r k
    (let q := newMap M.E (d.getD M.E.n) s; some (.val q.1 q.2)) := RO_op rfl rfl
theorem RO_mapUpdate {t m x y} : RO M ops ({ dst := d, op := .mapUpdate t m x y, type := ty, pos := pos, after := af, guard := none } :: r) k s = RV M ops d r k
    ((mapPut M.E t (evalO s m) (evalO s x) (evalO s y) s).map fun s' => .val .junk s') := RO_op rfl rfl
theorem RO_insert {t m x y} : RO M ops ({ dst := d, op := .insert t m x y, type := ty, pos := pos, after := af, guard := none } :: r) k s = RV M ops d r k
    ((mapPut M.E t (evalO s m) (evalO s x) (evalO s y) s).map fun s' => .val .junk s') := RO_op rfl rfl
theorem RO_mapEntry {t m x} : RO M ops ({ dst := d, op := .mapEntry t m x, type := ty, pos := pos, after := af, guard := none } :: r) k s = RV M ops d r k
    ((mapEnt M.E t (evalO s m) (evalO s x) s).map fun q => .val q.1 q.2) := RO_op rfl rfl
theorem RO_entryStore {t m x y} : RO M ops ({ dst := d, op := .entryStore t m x y, type := ty, pos := pos, after := af, guard := none } :: r) k s = RV M ops d r k
    ((entPut M.E (evalO s m) (evalO s x) (evalO s y) s).map fun s' => .val .junk s') := RO_op rfl rfl
theorem RO_lookup {t m x ok} : RO M ops ({ dst := d, op := .lookup t m x ok, type := ty, pos := pos, after := af, guard := none } :: r) k s = RV M ops d r k
    (valOf s (mapGet M.E t (evalO s m) (evalO s x) ok s)) := RO_op rfl rfl
end ops
end Go.Vi
namespace Go.Vi
open Go
variable {M : Mc} {k : K} {s : St}
theorem wrap_id {n : Int} (h : -9223372036854775808 ≤ n ∧ n < 9223372036854775808) : IntKind.i64.wrap n = n := by
  have e1 : (2:Int) ^ (IntKind.i64.bits - 1) = 9223372036854775808 := by decide
  have e2 : (2:Int) ^ IntKind.i64.bits = 18446744073709551616 := by decide
  have e3 : IntKind.i64.signed = true := rfl
  simp only [IntKind.wrap, e1, e2, e3, Bool.true_and, decide_eq_true_eq]
  split <;> omega
theorem z0 : ((0:Nat):Int) = 0 := rfl
theorem z00 : ((0:Int) ≤ 0) = True := by simp
theorem z1 : ((1:Nat):Int) = 1 := rfl
theorem nat_nonneg (n : Nat) : (0 ≤ (n : Int)) = True := by simp
theorem vlen : (∀ es, lenV (.lst es) = some es.length) ∧ (lenV .nilS = some 0) ∧ (∀ a b c n, lenV (.ref a b c n) = some n) ∧ (∀ b, lenV (.str b) = some b.length) := ⟨fun _ => rfl, rfl, fun _ _ _ _ => rfl, fun _ => rfl⟩
theorem velems {E : Env} {s : St} : (∀ es, elems E s (.lst es) = some es) ∧ (elems E s .nilS = some []) ∧ (∀ k ver off len, elems E s (.ref k ver off len) = match s.obj E k ver with
    | some (.arr sz es) => if off + len ≤ es.length then some ((es.drop off).take len) else none
    | _ => none) := ⟨fun _ => rfl, rfl, fun _ _ _ _ => rfl⟩
theorem vleaf : (∀ k n, leafV (.int k n) = true) ∧ (∀ b, leafV (.bool b) = true) ∧ (∀ b, leafV (.str b) = true) ∧ (∀ b, leafV (.lst b) = true) ∧ (∀ b, leafV (.iptr b) = true) ∧ (∀ b, leafV (.lmap b) = true) ∧ (leafV .nilS = true) ∧ (leafV .nilP = true) ∧ (leafV .nilI = true) ∧ (leafV .nilF = true) ∧ (leafV .nilM = true) ∧ (∀ a b, leafV (.iface a b) = true) ∧ (∀ a b c, leafV (.fn a b c) = true) ∧ (∀ a b c d, leafV (.ref a b c d) = true) ∧ (∀ a b c d, leafV (.ptr a b c d) = true) ∧ (∀ a b, leafV (.mref a b) = true) ∧ (∀ a, leafV (.agg a) = false) ∧ (∀ a, leafV (.tup a) = false) :=
  ⟨fun _ _ => rfl, fun _ => rfl, fun _ => rfl, fun _ => rfl, fun _ => rfl, fun _ => rfl, rfl, rfl, rfl, rfl, rfl, fun _ _ => rfl, fun _ _ _ => rfl, fun _ _ _ _ => rfl, fun _ _ _ _ => rfl, fun _ _ => rfl, fun _ => rfl, fun _ => rfl⟩
abbrev I (n : Int) : V := .int .i64 n
theorem R_ret' : R M .ret k s = some (.ret, s) := R_ret.trans (X_ret _)
theorem RV_pan' {ops d l v s'} : RV M ops d l k (some (.pan v s')) = some (.pan v, tidy M.E s') := RV_pan.trans (X_pan _)
theorem RO_nil' {ops} : RO M ops [] k s = X M .norm k ⟨tkeep s.τ M.E.keep, lkeep s.L M.E.keep, s.O, s.c⟩ := rfl
theorem passed_tmp {E : Env} {t : Nat} : passed E (.tmp t) s = if E.cnd.contains t = true then ⟨tdrop s.τ t, s.L, s.O, s.c⟩ else s := rfl
theorem passed_const {E : Env} {v : Value} : passed E (.const v) s = s := rfl
theorem cons_has (a b : Nat) (l : List Nat) : (a :: l).contains b = (b == a || l.contains b) := List.contains_cons
theorem nil_has (b : Nat) : ([] : List Nat).contains b = false := rfl
theorem if_tt {α : Type} (a b : α) : (if true = true then a else b) = a := rfl
theorem if_ff {α : Type} (a b : α) : (if false = true then a else b) = b := rfl
theorem isome {α : Type} (a : α) : (some a).isSome = true := rfl
theorem gets {α : Type} (a b : α) : (some a).getD b = a := rfl
theorem getn {α : Type} (b : α) : (none : Option α).getD b = b := rfl
theorem omap {α β : Type} (f : α → β) (a : α) : Option.map f (some a) = some (f a) := rfl
theorem obnd {α β : Type} (f : α → Option β) (a : α) : Option.bind (some a) f = f a := rfl
theorem valOf_some {v : V} : valOf s (some v) = some (.val v s) := rfl
def ob (x : Option (Nat × Obj)) (v : Nat) : Option Obj := match x with | some (v', o) => if v' = v then some o else none | none => none
theorem ob_some {v' o v} : ob (some (v', o)) v = if v' = v then some o else none := rfl
theorem obj_s {E : Env} {l sl off v : Nat} (h : l = E.lvl) : St.obj E s ⟨l, sl, off⟩ v = ob (lget s.L (sl, off)) v := by
  unfold St.obj; rw [if_pos h]; rfl
theorem put_s {E : Env} {l sl off v : Nat} {o : Obj} (h : l = E.lvl) : St.put E s ⟨l, sl, off⟩ v o = ⟨s.τ, lput s.L (sl, off) (v, o), s.O, s.c⟩ := by
  unfold St.put; rw [if_pos h]
theorem del_s {E : Env} {l sl off : Nat} (h : l = E.lvl) : St.del E s ⟨l, sl, off⟩ = ⟨s.τ, ldel s.L (sl, off), s.O, s.c⟩ := by
  unfold St.del; rw [if_pos h]
theorem dels_nil {E : Env} : St.dels E [] s = s := rfl
theorem dels_cons {E : Env} {k r} : St.dels E (k :: r) s = St.dels E r (s.del E k) := rfl
theorem pair_eq {a b c d : Nat} : ((a, b) = (c, d)) = (a = c ∧ b = d) := by simp
theorem vmr : (type_of% @boxV.eq_1) ∧ (type_of% @RO_move) ∧ (type_of% @RO_assign) ∧ (type_of% @RO_bin) ∧ (type_of% @RO_un) ∧ (type_of% @RO_load) ∧ (type_of% @RO_store) ∧ (type_of% @RO_len) ∧ (type_of% @RO_min) ∧ (type_of% @RO_max) ∧ (type_of% @RO_append) ∧ (type_of% @RO_copy) ∧ (type_of% @RO_call') ∧ (type_of% @RCl_fn) ∧ (type_of% @RO_guard) ∧ (type_of% @RG_some) ∧ (type_of% @RGb_bool) ∧ (type_of% @RGb_off) ∧ (type_of% @gslot_zero) ∧ (type_of% @gslot_succ) ∧ (type_of% @RO_alloc) ∧ (type_of% @RO_box) ∧ (type_of% @RO_pick) ∧ (type_of% @RO_build) ∧ (type_of% @RO_buildSlice) ∧ (type_of% @RO_nilCheck) ∧ (type_of% @RO_convert) ∧ (type_of% @RO_makeInterface) ∧ (type_of% @RO_makeFunc) ∧ (type_of% @RO_makeSlice) ∧ (type_of% @RO_slice) ∧ (type_of% @RO_fieldAddr) ∧ (type_of% @RO_field) ∧ (type_of% @RO_indexAddr) ∧ (type_of% @RO_index) ∧ (type_of% @RO_extract) ∧ (type_of% @RO_panic) ∧ (type_of% @RO_makeMap) ∧ (type_of% @RO_mapUpdate) ∧ (type_of% @RO_insert) ∧ (type_of% @RO_lookup) ∧ (type_of% @RO_mapEntry) ∧ (type_of% @RO_entryStore) :=
  ⟨@boxV.eq_1, @RO_move, @RO_assign, @RO_bin, @RO_un, @RO_load, @RO_store, @RO_len, @RO_min, @RO_max, @RO_append, @RO_copy, @RO_call', @RCl_fn, @RO_guard, @RG_some, @RGb_bool, @RGb_off, @gslot_zero, @gslot_succ, @RO_alloc, @RO_box, @RO_pick, @RO_build, @RO_buildSlice, @RO_nilCheck, @RO_convert, @RO_makeInterface, @RO_makeFunc, @RO_makeSlice, @RO_slice, @RO_fieldAddr, @RO_field, @RO_indexAddr, @RO_index, @RO_extract, @RO_panic, @RO_makeMap, @RO_mapUpdate, @RO_insert, @RO_lookup, @RO_mapEntry, @RO_entryStore⟩
theorem vmw : (type_of% @R_seq) ∧ (type_of% @R_skip) ∧ (type_of% @R_label) ∧ (type_of% @R_ret') ∧ (type_of% @R_exit) ∧ (type_of% @R_scope) ∧ (type_of% @R_block) ∧ (type_of% @R_loop) ∧ (type_of% @R_cond') ∧ (type_of% @Cnd_bool) ∧ (type_of% @R_region) ∧ (type_of% @X_seq) ∧ (type_of% @X_seq_exit) ∧ (type_of% @X_blk) ∧ (type_of% @X_blk_exit) ∧ (type_of% @X_lp) ∧ (type_of% @X_lp_exit) ∧ (type_of% @X_pan) ∧ (type_of% @RO_nil') ∧ (type_of% @RV_val) ∧ (type_of% @RV_val_none) ∧ (type_of% @RV_pan') ∧ (type_of% @passed_tmp) ∧ (type_of% @passed_const) ∧ (type_of% @tget_tset) ∧ (type_of% @tkeep_get) ∧ (type_of% @tdrop_get) :=
  ⟨@R_seq, @R_skip, @R_label, @R_ret', @R_exit, @R_scope, @R_block, @R_loop, @R_cond', @Cnd_bool, @R_region, @X_seq, @X_seq_exit, @X_blk, @X_blk_exit, @X_lp, @X_lp_exit, @X_pan, @RO_nil', @RV_val, @RV_val_none, @RV_pan', @passed_tmp, @passed_const, @tget_tset, @tkeep_get, @tdrop_get⟩
theorem vmp : (type_of% @if_tt) ∧ (type_of% @if_ff) ∧ (type_of% @isome) ∧ (type_of% @gets) ∧ (type_of% @getn) ∧ (type_of% @omap) ∧ (type_of% @obnd) ∧ (type_of% @valOf_some) ∧ (type_of% @cons_has) ∧ (type_of% @nil_has) ∧ (type_of% @Bool.or_false) ∧ (type_of% @Bool.or_true) ∧ (type_of% @Bool.false_or) ∧ (type_of% @Bool.true_or) ∧ (type_of% @decide_eq_true_eq) :=
  ⟨@if_tt, @if_ff, @isome, @gets, @getn, @omap, @obnd, @valOf_some, @cons_has, @nil_has, @Bool.or_false, @Bool.or_true, @Bool.false_or, @Bool.true_or, @decide_eq_true_eq⟩
theorem vst : (type_of% @ob_some) ∧ (type_of% @obj_s) ∧ (type_of% @put_s) ∧ (type_of% @del_s) ∧ (type_of% @dels_nil) ∧ (type_of% @dels_cons) ∧ (type_of% @lget_lput) ∧ (type_of% @lget_ldel) ∧ (type_of% @lget_lkeep) ∧ (type_of% @pair_eq) :=
  ⟨@ob_some, @obj_s, @put_s, @del_s, @dels_nil, @dels_cons, @lget_lput, @lget_ldel, @lget_lkeep, @pair_eq⟩
end Go.Vi
namespace Go.Vi
open Go
mutual
def can : V → V
  | .nilS => .lst []
  | .agg cs => .agg (cans cs)
  | .tup cs => .tup (cans cs)
  | .lst es => .lst (cans es)
  | v => v
def cans : List V → List V
  | [] => []
  | v :: r => can v :: cans r
end
theorem cans_map : ∀ l : List V, cans l = l.map can
  | [] => rfl
  | v :: r => by simp only [cans, List.map_cons, cans_map r]
theorem cans_len : ∀ l : List V, (cans l).length = l.length
  | [] => rfl
  | v :: r => by simp only [cans, List.length_cons, cans_len r]
mutual
theorem PC_can {w : World} {A : Nat → Prop} : ∀ (v : V) (c : Value), PC w A v c → PC w A (can v) c
  | .nilS, c, h => by
    simp only [PC, can] at h ⊢
    exact ⟨none, 0, h, by simp, by simp, by simp⟩
  | .agg cs, c, h => by
    simp only [PC, can] at h ⊢
    obtain ⟨a, e, h⟩ := h
    exact ⟨a, e, PCs_can cs _ h⟩
  | .tup cs, c, h => by
    simp only [PC, can] at h ⊢
    obtain ⟨a, e, h⟩ := h
    exact ⟨a, e, PCs_can cs _ h⟩
  | .lst es, c, h => by
    simp only [PC, can] at h ⊢
    obtain ⟨ao, cap, e, h1, h2, h3⟩ := h
    rw [cans_len]
    refine ⟨ao, cap, e, h1, h2, fun hn => ?_⟩
    obtain ⟨b, o, sz, e2, hb, h4⟩ := h3 hn
    exact ⟨b, o, sz, e2, hb, PEs_can es b o sz h4⟩
  | .int .., _, h => by simpa [can] using h
  | .bool _, _, h => by simpa [can] using h
  | .str _, _, h => by simpa [can] using h
  | .iptr _, _, h => by simpa [can] using h
  | .lmap _, _, h => by simpa [can] using h
  | .nilP, _, h => by simpa [can] using h
  | .nilI, _, h => by simpa [can] using h
  | .nilF, _, h => by simpa [can] using h
  | .nilM, _, h => by simpa [can] using h
  | .iface .., _, h => by simpa [can] using h
  | .fn .., _, h => by simpa [can] using h
  | .ref .., _, h => by simp [PC] at h
  | .ptr .., _, h => by simp [PC] at h
  | .mref .., _, h => by simp [PC] at h
  | .own .., _, h => by simp [PC] at h
  | .junk, _, h => by simp [PC] at h
theorem PCs_can {w : World} {A : Nat → Prop} : ∀ (v : List V) (c : List Value), PCs w A v c → PCs w A (cans v) c
  | [], _, h => by simpa [PCs, cans] using h
  | v :: r, l, h => by
    simp only [PCs, cans] at h ⊢
    obtain ⟨c, d, e, h1, h2⟩ := h
    exact ⟨c, d, e, PC_can v c h1, PCs_can r d h2⟩
theorem PAt_can {w : World} {A : Nat → Prop} : ∀ (v : List V) (b o : Nat), PAt w A b o v → PAt w A b o (cans v)
  | [], _, _, _ => by simp [cans, PAt]
  | v :: r, b, o, h => by
    simp only [PAt, cans] at h ⊢
    obtain ⟨⟨c, h1, h2⟩, h3⟩ := h
    exact ⟨⟨c, h1, PC_can v c h2⟩, PAt_can r b (o + 1) h3⟩
theorem PEs_can {w : World} {A : Nat → Prop} : ∀ (v : List V) (b o sz : Nat), PEs w A b o sz v → PEs w A b o sz (cans v)
  | [], _, _, _, _ => by simp [cans, PEs]
  | .agg cs :: r, b, o, sz, h => by
    simp only [PEs, cans, can] at h ⊢
    exact ⟨by rw [cans_len]; exact h.1, PAt_can cs b o h.2.1, PEs_can r b (o + sz) sz h.2.2⟩
  | .nilS :: r, b, o, sz, h => by
    simp only [PEs, cans, can] at h ⊢
    obtain ⟨h0, ⟨c, h1, h2⟩, h3⟩ := h
    have := PC_can .nilS c h2
    exact ⟨h0, ⟨c, h1, by simpa [can] using this⟩, PEs_can r b (o + sz) sz h3⟩
  | .lst es :: r, b, o, sz, h => by
    simp only [PEs, cans, can] at h ⊢
    obtain ⟨h0, ⟨c, h1, h2⟩, h3⟩ := h
    have := PC_can (.lst es) c h2
    exact ⟨h0, ⟨c, h1, by simpa [can] using this⟩, PEs_can r b (o + sz) sz h3⟩
  | .tup es :: r, b, o, sz, h => by
    simp only [PEs, cans, can] at h ⊢
    obtain ⟨h0, ⟨c, h1, h2⟩, h3⟩ := h
    have := PC_can (.tup es) c h2
    exact ⟨h0, ⟨c, h1, by simpa [can] using this⟩, PEs_can r b (o + sz) sz h3⟩
  | .int .. :: r, b, o, sz, h => by simp only [PEs, cans, can] at h ⊢; exact ⟨h.1, h.2.1, PEs_can r b (o + sz) sz h.2.2⟩
  | .bool _ :: r, b, o, sz, h => by simp only [PEs, cans, can] at h ⊢; exact ⟨h.1, h.2.1, PEs_can r b (o + sz) sz h.2.2⟩
  | .str _ :: r, b, o, sz, h => by simp only [PEs, cans, can] at h ⊢; exact ⟨h.1, h.2.1, PEs_can r b (o + sz) sz h.2.2⟩
  | .iptr _ :: r, b, o, sz, h => by simp only [PEs, cans, can] at h ⊢; exact ⟨h.1, h.2.1, PEs_can r b (o + sz) sz h.2.2⟩
  | .lmap _ :: r, b, o, sz, h => by simp only [PEs, cans, can] at h ⊢; exact ⟨h.1, h.2.1, PEs_can r b (o + sz) sz h.2.2⟩
  | .nilP :: r, b, o, sz, h => by simp only [PEs, cans, can] at h ⊢; exact ⟨h.1, h.2.1, PEs_can r b (o + sz) sz h.2.2⟩
  | .nilI :: r, b, o, sz, h => by simp only [PEs, cans, can] at h ⊢; exact ⟨h.1, h.2.1, PEs_can r b (o + sz) sz h.2.2⟩
  | .nilF :: r, b, o, sz, h => by simp only [PEs, cans, can] at h ⊢; exact ⟨h.1, h.2.1, PEs_can r b (o + sz) sz h.2.2⟩
  | .nilM :: r, b, o, sz, h => by simp only [PEs, cans, can] at h ⊢; exact ⟨h.1, h.2.1, PEs_can r b (o + sz) sz h.2.2⟩
  | .iface .. :: r, b, o, sz, h => by simp only [PEs, cans, can] at h ⊢; exact ⟨h.1, h.2.1, PEs_can r b (o + sz) sz h.2.2⟩
  | .fn .. :: r, b, o, sz, h => by simp only [PEs, cans, can] at h ⊢; exact ⟨h.1, h.2.1, PEs_can r b (o + sz) sz h.2.2⟩
  | .ref .. :: r, b, o, sz, h => by simp only [PEs, PC] at h; obtain ⟨_, ⟨_, _, h⟩, _⟩ := h; exact absurd h id
  | .ptr .. :: r, b, o, sz, h => by simp only [PEs, PC] at h; obtain ⟨_, ⟨_, _, h⟩, _⟩ := h; exact absurd h id
  | .mref .. :: r, b, o, sz, h => by simp only [PEs, PC] at h; obtain ⟨_, ⟨_, _, h⟩, _⟩ := h; exact absurd h id
  | .own .. :: r, b, o, sz, h => by simp only [PEs, PC] at h; obtain ⟨_, ⟨_, _, h⟩, _⟩ := h; exact absurd h id
  | .junk :: r, b, o, sz, h => by simp only [PEs, PC] at h; obtain ⟨_, ⟨_, _, h⟩, _⟩ := h; exact absurd h id
end
theorem sound_can {P : Program} {g : FuncId} {args : List V} {out : COut} (h : SoundPure P g (cans args) out) : SoundPure P g args out :=
  fun w A cs hJ hA hp => h w A cs hJ hA (PCs_can _ _ hp)
theorem sound_imm {P : Program} {g : FuncId} {args : List V} {v : V} (h : SoundPure P g args (.ret v)) (hp : pureR v = true) : SoundPure P g args (.ret (can (imm v))) := by
  intro w A cs hJ hA ha
  refine (h w A cs hJ hA ha).mono ?_
  rintro e w' ⟨A', t, hA', cv, l, rfl, hrc, hown, hd⟩
  refine ⟨fun b => A' b ∨ ∃ i ∈ l, i.b = some b, ⟨t.size, t.os, t.tape, t.output, t.old, t.beta, t.cnt, fun b hb => .inl (t.imm b hb), fun b hb => ?_, fun b hb => absurd hb noM⟩, fun b hb => ?_, cv, [], rfl, ?_, fun i hi => (by cases hi), List.Pairwise.nil⟩
  · rcases hb with hb | ⟨i, hi, hb⟩
    · exact t.newA b hb
    · exact .inr (.inr (hown i hi b hb).1)
  · rcases hb with hb | ⟨i, hi, hb⟩
    · exact hA' b hb
    · exact (hown i hi b hb).2.1
  · exact RC.of_pure _ _ (PC_can _ _ (imm_sound (fun b hb => .inl hb) v cv l hp hrc (fun i hi b hb => .inr ⟨i, hi, hb⟩)))
open Classical in
noncomputable def hF {α : Type} (enc : α → List V) (ok : α → Prop) (out : α → V) : List V → Option V :=
  fun args => if h : ∃ a, cans args = enc a ∧ ok a then some (out h.choose) else none
theorem hF_eq {α : Type} {enc : α → List V} {ok : α → Prop} {out : α → V} {args : List V} {a : α} (hi : ∀ a b, enc a = enc b → a = b) (h : cans args = enc a) (hk : ok a) : hF enc ok out args = some (out a) := by
  have hx : ∃ a, cans args = enc a ∧ ok a := ⟨a, h, hk⟩
  unfold hF
  rw [dif_pos hx]
  congr 2
  exact (hi _ _ (h.symm.trans hx.choose_spec.1)).symm
theorem hF_sound {P : Program} {g : FuncId} {α : Type} {enc : α → List V} {ok : α → Prop} {out : α → V} (h : ∀ a, ok a → SoundPure P g (enc a) (.ret (out a))) : ∀ args v, hF enc ok out args = some v → SoundPure P g args (.ret v) := by
  intro args v hv
  unfold hF at hv
  split at hv
  · rename_i hx
    injection hv with hv
    subst hv
    have := h _ hx.choose_spec.2
    rw [← hx.choose_spec.1] at this
    exact sound_can this
  · cases hv
def hand : List (FuncId × (List V → Option V)) → FuncId → Option (List V → Option V)
  | [], _ => none
  | (q, F) :: r, g => if g = q then some F else hand r g
theorem hand_nil {g} : hand [] g = none := rfl
theorem hand_cons {q F r g} : hand ((q, F) :: r) g = if g = q then some F else hand r g := rfl
theorem sound_nil {P : Program} : SoundHand P (hand []) := fun g F args v h => by cases h
theorem sound_cons {P : Program} {q : FuncId} {F : List V → Option V} {r} (h : ∀ args v, F args = some v → SoundPure P q args (.ret v)) (hr : SoundHand P (hand r)) : SoundHand P (hand ((q, F) :: r)) := by
  intro g F' args v hg hv
  simp only [hand] at hg
  split at hg
  · injection hg with hg
    subst hg
    rename_i e
    subst e
    exact h args v hv
  · exact hr g F' args v hg hv
theorem sound_of {C : Ctx} (hhand : SoundHand C.P C.hand) (hG : ∀ g ∈ C.ok, GoodF C.P g) (hm : C.P.follows .mixedOrders = true) {g : FuncId} {fn : Func} {b : Code} {args : List V} {n : Nat} {out : COut} (hf : C.P.funcs[g]? = some fn) (hb : fn.body = some b) (hl : args.length ≤ fn.ntmps)
    (hp : match out with | .ret v => pureR v = true | .pan v => pureR v = true) (h : Fin (mcOf C g fn n) fn.results.toList (R (mcOf C g fn n) b .top ⟨params 0 args, [], fun _ => none, 0⟩) = some out) : SoundPure C.P g args out := by
  obtain ⟨c', O', h1⟩ := evF_of hf hb hl h
  exact pure_of_call (evF_sound hhand hG hm (n + 1)) h1 (by cases out <;> exact hp)
def CD (E : Env) (all : List V) (sh : Bool) (s : St) : St := if sh then St.dels E (refsL all) s else s
def CR (E : Env) (d : Nat) (all : List V) (s : St) : Option V → Option Res
  | some v => if (pureR v && shapeR v) = true then some (.val (importV E d v (CD E all (shares v) s)).1 (importV E d v (CD E all (shares v) s)).2) else none
  | none => none
theorem CR_some {E d all s v} : CR E d all s (some v) = if (pureR v && shapeR v) = true then some (.val (importV E d v (CD E all (shares v) s)).1 (importV E d v (CD E all (shares v) s)).2) else none := rfl
theorem callV_k {call : CallFn} {E : Env} {H : FuncId → Option (List V → Option V)} {d : Nat} {g : FuncId} {first caps args pargs : List V} {F : List V → Option V} {s : St} (hg : E.ok.contains g = true) (hi : E.imp = []) (hC : H g = some F) (hp : frzs E s (first ++ args ++ caps) = some pargs) :
    callV call E H d (.fn (.func g) first caps) args s = CR E d (first ++ args ++ caps) s (F pargs) := by
  unfold callV
  simp only [hg, if_true, hi, List.contains_nil, Bool.false_eq_true, if_false, hC, hp]
  unfold CR
  cases F pargs with
  | none => rfl
  | some v => simp only [Option.map_some, CD]
theorem callV_s {call : CallFn} {E : Env} {H : FuncId → Option (List V → Option V)} {d : Nat} {g : FuncId} {first caps args : List V} {s : St} (hg : E.ok.contains g = true) (hi : E.imp = []) (hC : (H g).isSome = true) (hp : (frzs E s (first ++ args ++ caps)).isSome = true) :
    callV call E H d (.fn (.func g) first caps) args s = CR E d (first ++ args ++ caps) s (((H g).getD fun _ => none) ((frzs E s (first ++ args ++ caps)).getD [])) := by
  obtain ⟨F, hF⟩ := Option.isSome_iff_exists.1 hC
  obtain ⟨p, hP⟩ := Option.isSome_iff_exists.1 hp
  rw [callV_k hg hi hF hP, hF, hP]
  rfl
end Go.Vi
namespace Go.Vi
open Go
def opsAt : Code → Array Oper
  | .region _ ops _ => ops
  | _ => #[]
theorem bq1 (b : Bool) : (b == true) = b := by cases b <;> rfl
theorem bq2 (b : Bool) : (b == false) = !b := by cases b <;> rfl
theorem fget_get : ∀ (ts : List Nat) (τ : List (Nat × V)) (t : Nat), t ∈ ts → tget (fget τ ts) t = tget τ t := fun ts τ t h => by rw [tget_fget, if_pos h]
theorem wanted_focus {ops : Array Oper} {o : Oper} {s : St} : wantedV ops (focus s (Oper.looksAt ops o)) o.guard = wantedV ops s o.guard := by
  unfold wantedV
  cases hg : o.guard with
  | none => rfl
  | some p =>
    obtain ⟨j, w⟩ := p
    dsimp only
    cases hd : (ops[j]?).bind (·.dst) with
    | none => rfl
    | some d =>
      dsimp only
      have : tget (focus s (Oper.looksAt ops o)).τ d = tget s.τ d := fget_get _ _ _ (by simp [Oper.looksAt, hg, hd])
      rw [this]
def wg (v : Option V) (w : Bool) : Option Bool := match v with | some (.bool b) => some (b == w) | some (.tup []) => some false | _ => none
theorem wg_bool {b w} : wg (some (.bool b)) w = some (b == w) := rfl
theorem wg_off {w} : wg (some (.tup [])) w = some false := rfl
theorem wanted_no {ops : Array Oper} {s : St} : wantedV ops s none = some true := rfl
theorem wanted_g {ops : Array Oper} {s : St} {j w} : wantedV ops s (some (j, w)) = wg ((gslot ops.toList j).map (tget s.τ)) w := by
  unfold wantedV
  dsimp only
  rw [← gslot_eq, Array.getElem?_toList]
  cases (ops[j]?).bind (fun x => x.dst) with
  | none => rfl
  | some t =>
    dsimp only [Option.map_some]
    generalize tget s.τ t = u
    cases u with
    | bool b => rfl
    | tup vs => cases vs <;> rfl
    | _ => rfl
variable {M : Mc} {k : K} {s : St}
theorem infs_fit {E : Env} {ops : Array Oper} {T : List (List Nat)} {acts : List Nat} : ∀ (l : List Oper) (i : Nat) (I : List Inf), (∀ j, l[j]? = ops[i + j]?) → infs E ops T acts l i = some I → ∀ (j : Nat) (o : Oper) (q : Inf), l[j]? = some o → I[j]? = some q → q.looks = Oper.looksAt ops o
  | [], _, _, _, _, j, o, q, h, _ => by cases h
  | o :: r, i, I, hl, h, j, o', q, h1, h2 => by
    unfold infs at h
    obtain ⟨_, h⟩ := ite_some h
    simp only [Option.map_eq_some_iff] at h
    obtain ⟨I', hI', rfl⟩ := h
    cases j with
    | zero =>
      simp only [List.getElem?_cons_zero, Option.some.injEq] at h1 h2
      subst h1; subst h2
      have := hl 0
      simp only [List.getElem?_cons_zero, Nat.add_zero] at this
      simp only [infOf, ← this]
    | succ j =>
      simp only [List.getElem?_cons_succ] at h1 h2
      exact infs_fit r (i + 1) I' (fun j => by have := hl (j + 1); simpa [Nat.add_assoc, Nat.add_comm 1 j] using this) hI' j o' q h1 h2
def drawL (call : CallFn) (E : Env) (C : FuncId → Option (List V → Option V)) (ops : Array Oper) : List Oper → List Inf → St → Option St
  | [], _, s => some s
  | o :: r, q :: I, s =>
    match wantedV ops s o.guard with
    | none => none
    | some false => (setD E o.dst (.tup []) s).bind (drawL call E C ops r I)
    | some true =>
      if q.act then
        match dop call E C (o.dst.getD E.n) o.op (aState q (focus s q.looks)) with
        | some (.val v s1) =>
          if decide ((aState q s).c ≤ s1.c) && (match q.touch with | some X => touchOk E o (focus s q.looks) X | none => true)
          then (setD E o.dst v { s1 with τ := s.τ }).bind (drawL call E C ops r I) else none
        | _ => none
      else
        match qop call E C (o.dst.getD E.n) o.op (qState E q.kill (focus s q.looks)) with
        | some v => (setD E o.dst v s).bind (drawL call E C ops r I)
        | none => none
  | _ :: _, [], _ => none
theorem drawL_eq {call : CallFn} {E : Env} {C : FuncId → Option (List V → Option V)} {ops : Array Oper} : ∀ (l : List Oper) (I : List Inf) (s : St), (∀ (j : Nat) (o : Oper) (q : Inf), l[j]? = some o → I[j]? = some q → q.looks = Oper.looksAt ops o) → drawOps call E C ops l I s = drawL call E C ops l I s
  | [], _, _, _ => rfl
  | _ :: _, [], _, _ => rfl
  | o :: r, q :: I, s, h => by
    have e := h 0 o q rfl rfl
    have ih : drawOps call E C ops r I = drawL call E C ops r I := funext fun s => drawL_eq r I s fun j o q h1 h2 => h (j + 1) o q (by simpa using h1) (by simpa using h2)
    unfold drawOps drawL
    rw [wanted_focus, e, ih]
    rfl
theorem R_draw {id ops} {I : List Inf} (h : regionInf M.E ops = some I) : R M (.region id ops true) k s = k.back M ((drawL M.call M.E M.C ops ops.toList I s).map fun s' => (.norm, tidy M.E { s' with c := s'.c + (slack + slack) })) := by
  unfold R evM
  conv => lhs; unfold evC
  unfold drawR
  rw [h]
  dsimp only
  unfold regionInf at h
  obtain ⟨_, hI⟩ := ite_some h
  rw [drawL_eq _ _ _ (infs_fit ops.toList 0 I (fun j => by simp) hI)]
  simp only [Option.map_map]
  rfl
def RL (M : Mc) (ops : Array Oper) (l : List Oper) (I : List Inf) (k : K) (s : St) : Option (Ex × St) := k.back M ((drawL M.call M.E M.C ops l I s).map fun s' => (.norm, tidy M.E { s' with c := s'.c + (slack + slack) }))
def RI (M : Mc) (ops : Array Oper) (k : K) (s : St) : Option (List Inf) → Option (Ex × St)
  | some I => RL M ops ops.toList I k s
  | none => k.back M none
theorem RI_some {ops I} : RI M ops k s (some I) = RL M ops ops.toList I k s := rfl
theorem R_drawI {id ops} : R M (.region id ops true) k s = RI M ops k s (regionInf M.E ops) := by
  cases h : regionInf M.E ops with
  | some I => exact R_draw h
  | none =>
    unfold R RI evM
    conv => lhs; unfold evC
    unfold drawR
    rw [h]
    rfl
theorem RL_nil {ops I} : RL M ops [] I k s = X M .norm k ⟨tkeep s.τ M.E.keep, lkeep s.L M.E.keep, s.O, s.c + (slack + slack)⟩ := rfl
def RQ (M : Mc) (ops : Array Oper) (d : Option Tmp) (l : List Oper) (I : List Inf) (k : K) (s : St) (v : Option V) : Option (Ex × St) :=
  match v with
  | some v => match setD M.E d v s with | some s' => RL M ops l I k s' | none => k.back M none
  | none => k.back M none
def RA (M : Mc) (ops : Array Oper) (d : Option Tmp) (l : List Oper) (I : List Inf) (k : K) (s : St) (c : Nat) (ok : Bool) (v : Option Res) : Option (Ex × St) :=
  match v with
  | some (.val v s1) => if (decide (c ≤ s1.c) && ok) = true then (match setD M.E d v { s1 with τ := s.τ } with | some s' => RL M ops l I k s' | none => k.back M none) else k.back M none
  | _ => k.back M none
theorem RQ_some {ops d l I v} (hd : d < M.E.n) : RQ M ops (some d) l I k s (some v) = RL M ops l I k ⟨tset s.τ d v, s.L, s.O, s.c⟩ := by
  unfold RQ
  simp only [setD, if_pos hd]
theorem RA_val {ops d l I c ok v s1} (hd : d < M.E.n) (hc : c ≤ s1.c) (ho : ok = true) : RA M ops (some d) l I k s c ok (some (.val v s1)) = RL M ops l I k ⟨tset s.τ d v, s1.L, s1.O, s1.c⟩ := by
  unfold RA
  simp only [setD, if_pos hd, hc, ho, decide_true, Bool.and_self, if_true]
theorem RA_val_none {ops l I c ok v s1} (hc : c ≤ s1.c) (ho : ok = true) : RA M ops none l I k s c ok (some (.val v s1)) = RL M ops l I k ⟨s.τ, s1.L, s1.O, s1.c⟩ := by
  unfold RA
  simp only [setD, hc, ho, decide_true, Bool.and_self, if_true]
def RW (M : Mc) (ops : Array Oper) (d : Option Tmp) (l : List Oper) (I : List Inf) (k : K) (s : St) (w : Option Bool) (v : Option V) : Option (Ex × St) :=
  match w with
  | some true => RQ M ops d l I k s v
  | some false => RQ M ops d l I k s (some (.tup []))
  | none => k.back M none
def RAW (M : Mc) (ops : Array Oper) (d : Option Tmp) (l : List Oper) (I : List Inf) (k : K) (s : St) (w : Option Bool) (c : Nat) (ok : Bool) (v : Option Res) : Option (Ex × St) :=
  match w with
  | some true => RA M ops d l I k s c ok v
  | some false => RQ M ops d l I k s (some (.tup []))
  | none => k.back M none
theorem RW_tt {ops d l I v} : RW M ops d l I k s (some true) v = RQ M ops d l I k s v := rfl
theorem RW_ff {ops d l I v} : RW M ops d l I k s (some false) v = RQ M ops d l I k s (some (.tup [])) := rfl
theorem RAW_tt {ops d l I c ok v} : RAW M ops d l I k s (some true) c ok v = RA M ops d l I k s c ok v := rfl
theorem RAW_ff {ops d l I c ok v} : RAW M ops d l I k s (some false) c ok v = RQ M ops d l I k s (some (.tup [])) := rfl
section ops
variable {ops : Array Oper} {r : List Oper} {d : Option Tmp} {ty : TypeId} {pos : String} {af : Array Edge} {g : Option (Nat × Bool)} {K : Option (List Key)} {X : Option (List Key)} {f : Bool} {I : List Inf} {ts : List Nat}
theorem RL_quiet {op} : RL M ops ({ dst := d, op := op, type := ty, pos := pos, after := af, guard := g } :: r) (⟨false, K, X, f, ts⟩ :: I) k s = RW M ops d r I k s (wantedV ops s g) (qop M.call M.E M.C (d.getD M.E.n) op (qState M.E K ⟨fget s.τ ts, s.L, s.O, s.c⟩)) := by
  unfold RL RW
  conv => lhs; unfold drawL
  dsimp only
  cases wantedV ops s g with
  | none => rfl
  | some b =>
    cases b with
    | false =>
      dsimp only [RQ]
      cases setD M.E d (V.tup []) s <;> rfl
    | true =>
      simp only [Bool.false_eq_true, if_false]
      dsimp only [focus, RQ]
      cases qop M.call M.E M.C (d.getD M.E.n) op (qState M.E K ⟨fget s.τ ts, s.L, s.O, s.c⟩) with
      | none => rfl
      | some v => dsimp only; cases setD M.E d v s <;> rfl
theorem RL_actor {op} : RL M ops ({ dst := d, op := op, type := ty, pos := pos, after := af, guard := g } :: r) (⟨true, K, X, f, ts⟩ :: I) k s = RAW M ops d r I k s (wantedV ops s g)
    (if f = true then s.c else s.c + (slack + slack)) (match X with | some X => touchOk M.E { dst := d, op := op, type := ty, pos := pos, after := af, guard := g } ⟨fget s.τ ts, s.L, s.O, s.c⟩ X | none => true) (dop M.call M.E M.C (d.getD M.E.n) op ⟨fget s.τ ts, s.L, s.O, if f = true then s.c else s.c + (slack + slack)⟩) := by
  unfold RL RAW
  conv => lhs; unfold drawL
  dsimp only
  cases wantedV ops s g with
  | none => rfl
  | some b =>
    cases b with
    | false =>
      dsimp only [RQ]
      cases setD M.E d (V.tup []) s <;> rfl
    | true =>
      simp only [if_true]
      dsimp only [focus, RA, aState]
      cases dop M.call M.E M.C (d.getD M.E.n) op ⟨fget s.τ ts, s.L, s.O, if f = true then s.c else s.c + (slack + slack)⟩ with
      | none => rfl
      | some res =>
        cases res with
        | pan v s1 => rfl
        | val v s1 =>
          dsimp only
          cases setD M.E d v { s1 with τ := s.τ } <;> (repeat' split) <;> first | rfl | contradiction | (simp_all; done) | (simp_all; rfl)
end ops
theorem qop_call {call : CallFn} {E : Env} {C : FuncId → Option (List V → Option V)} {d : Nat} {f : Operand} {xs : Array Operand} {ts : Array TypeId} {s : St} : qop call E C d (.call { callee := .value f, args := xs, argTypes := ts }) s = callQ call E C (evalO s f) (evalOs s xs.toList) s := rfl
theorem qop_len {call : CallFn} {E : Env} {C : FuncId → Option (List V → Option V)} {d : Nat} {x : Operand} {ts : Array TypeId} {s : St} : qop call E C d (.call { callee := .builtin .len, args := #[x], argTypes := ts }) s = resVal (builtinV E .len d ts.toList [evalO s x] s) := rfl
def aok (E : Env) (d : Nat) (v : V) : Bool := match v with
  | .ref .. | .agg _ | .mref .. => false
  | .nilS => E.frz.contains d || !E.pro.contains d
  | _ => true
def CQ (all : List V) : Option V → Option V
  | some v => if (pureR v && (!shares v || (refsL all).isEmpty)) = true then some (imm v) else none
  | none => none
theorem CQ_some {all v} : CQ all (some v) = if (pureR v && (!shares v || (refsL all).isEmpty)) = true then some (imm v) else none := rfl
theorem callQ_s {call : CallFn} {E : Env} {H : FuncId → Option (List V → Option V)} {g : FuncId} {first caps args : List V} {s : St} (hg : E.ok.contains g = true) (hC : (H g).isSome = true) (hp : (frzs E s (first ++ args ++ caps)).isSome = true) :
    callQ call E H (.fn (.func g) first caps) args s = CQ (first ++ args ++ caps) (((H g).getD fun _ => none) ((frzs E s (first ++ args ++ caps)).getD [])) := by
  obtain ⟨F, hF⟩ := Option.isSome_iff_exists.1 hC
  obtain ⟨p, hP⟩ := Option.isSome_iff_exists.1 hp
  unfold callQ
  simp only [hg, if_true, hP, hF, Option.getD_some]
  cases F p with
  | none => rfl
  | some v => rfl
def CS (E : Env) (all : List V) (s : St) : Option V → Option Res
  | some v => if pureR v = true then some (.val (imm v) (CD E all (shares v) s)) else none
  | none => none
theorem CS_some {E all v} : CS E all s (some v) = if pureR v = true then some (.val (imm v) (CD E all (shares v) s)) else none := rfl
theorem callS_s {call : CallFn} {E : Env} {H : FuncId → Option (List V → Option V)} {g : FuncId} {first caps args : List V} {s : St} (hg : E.ok.contains g = true) (hC : (H g).isSome = true) (hp : (frzs E s (first ++ args ++ caps)).isSome = true) :
    callS call E H (.fn (.func g) first caps) args s = CS E (first ++ args ++ caps) s (((H g).getD fun _ => none) ((frzs E s (first ++ args ++ caps)).getD [])) := by
  obtain ⟨F, hF⟩ := Option.isSome_iff_exists.1 hC
  obtain ⟨p, hP⟩ := Option.isSome_iff_exists.1 hp
  unfold callS
  simp only [hg, if_true, hP, hF, Option.getD_some]
  cases F p with
  | none => rfl
  | some v => rfl
theorem dops {call : CallFn} {E : Env} {C : FuncId → Option (List V → Option V)} {n : Nat} : (∀ f xs ts s, dop call E C n (.call { callee := .value f, args := xs, argTypes := ts }) s = if impCall E (.call { callee := .value f, args := xs, argTypes := ts }) = true then aop call E C n (.call { callee := .value f, args := xs, argTypes := ts }) s else callS call E C (evalO s f) (evalOs s xs.toList) s) ∧
    (∀ b xs ts s, dop call E C n (.call { callee := .builtin b, args := xs, argTypes := ts }) s = builtinV E b n ts.toList (evalOs s xs.toList) s) ∧ (∀ t p x s, dop call E C n (.store t p x) s = aop call E C n (.store t p x) s) ∧ (∀ x s, dop call E C n (.assign x) s = aop call E C n (.assign x) s) ∧ (∀ t s, dop call E C n (.alloc t) s = aop call E C n (.alloc t) s) ∧ (∀ t x s, dop call E C n (.box t x) s = aop call E C n (.box t x) s) ∧
    (∀ t m ps s, dop call E C n (.buildSlice t m ps) s = aop call E C n (.buildSlice t m ps) s) ∧ (∀ t l c s, dop call E C n (.makeSlice t l c) s = aop call E C n (.makeSlice t l c) s) ∧ (∀ t s, dop call E C n (.makeMap t none) s = aop call E C n (.makeMap t none) s) ∧ (∀ t m x y s, dop call E C n (.mapUpdate t m x y) s = aop call E C n (.mapUpdate t m x y) s) ∧ (∀ t m x y s, dop call E C n (.insert t m x y) s = aop call E C n (.insert t m x y) s) ∧ (∀ t m x s, dop call E C n (.mapEntry t m x) s = aop call E C n (.mapEntry t m x) s) ∧ (∀ t m x y s, dop call E C n (.entryStore t m x y) s = aop call E C n (.entryStore t m x y) s) :=
  ⟨fun _ _ _ _ => rfl, fun _ _ _ _ => rfl, fun _ _ _ _ => rfl, fun _ _ => rfl, fun _ _ => rfl, fun _ _ _ => rfl, fun _ _ _ _ => rfl, fun _ _ _ _ => rfl, fun _ _ => rfl, fun _ _ _ _ _ => rfl, fun _ _ _ _ _ => rfl, fun _ _ _ _ => rfl, fun _ _ _ _ _ => rfl⟩
theorem impC {E : Env} : (∀ g xs ts, impCall E (.call { callee := .value (.func g), args := xs, argTypes := ts }) = E.imp.contains g) ∧ (∀ t xs ts, impCall E (.call { callee := .value (.tmp t), args := xs, argTypes := ts }) = false) := ⟨fun _ _ _ => rfl, fun _ _ _ => rfl⟩
section q
variable {call : CallFn} {E : Env} {C : FuncId → Option (List V → Option V)} {n : Nat}
theorem qops : (∀ x s, qop call E C n (.move x) s = some (evalO s x)) ∧ (∀ t x s, qop call E C n (.load t x) s = (cellsAt E s (evalO s x)).bind (readT E.P t)) ∧ (∀ o t x y u s, qop call E C n (.binOp o t x y u) s = binW E.P o t y (evalO s x) (evalO s y)) ∧ (∀ o t x s, qop call E C n (.unOp o t x) s = unV o (evalO s x)) ∧
    (∀ a x y s, qop call E C n (.pick a x y) s = resVal (aop call E C n (.pick a x y) s)) ∧ (∀ t ps s, qop call E C n (.build t ps) s = resVal (aop call E C n (.build t ps) s)) ∧ (∀ x s, qop call E C n (.nilCheck x) s = resVal (aop call E C n (.nilCheck x) s)) ∧ (∀ a b x s, qop call E C n (.convert a b x) s = resVal (aop call E C n (.convert a b x) s)) ∧
    (∀ t x s, qop call E C n (.makeInterface t x) s = resVal (aop call E C n (.makeInterface t x) s)) ∧ (∀ f a b s, qop call E C n (.makeFunc f a b) s = some (.fn f (evalOs s a.toList) (evalOs s b.toList))) ∧ (∀ t x lo hi s, qop call E C n (.slice t x lo hi none) s = sliceA E t (evalO s x) (lo.map (evalO s)) (hi.map (evalO s)) s) ∧
    (∀ t x j s, qop call E C n (.fieldAddr t x j) s = resVal (aop call E C n (.fieldAddr t x j) s)) ∧ (∀ t x j s, qop call E C n (.field t x j) s = resVal (aop call E C n (.field t x j) s)) ∧ (∀ t x j s, qop call E C n (.indexAddr t x j) s = resVal (aop call E C n (.indexAddr t x j) s)) ∧ (∀ t x j s, qop call E C n (.index t x j) s = resVal (aop call E C n (.index t x j) s)) ∧
    (∀ x j s, qop call E C n (.extract x j) s = resVal (aop call E C n (.extract x j) s)) ∧ (∀ t m x ok s, qop call E C n (.lookup t m x ok) s = mapGet E t (evalO s m) (evalO s x) ok s) :=
  ⟨fun _ _ => rfl, fun _ _ _ => resVal_valOf, fun _ _ _ _ _ _ => resVal_valOf, fun _ _ _ _ => resVal_valOf, fun _ _ _ _ => rfl, fun _ _ _ => rfl, fun _ _ => rfl, fun _ _ _ _ => rfl, fun _ _ _ => rfl, fun _ _ _ _ => rfl, fun _ _ _ _ _ => resVal_valOf, fun _ _ _ _ => rfl, fun _ _ _ _ => rfl, fun _ _ _ _ => rfl, fun _ _ _ _ => rfl, fun _ _ _ => rfl, fun _ _ _ _ _ => resVal_valOf⟩
end q
theorem resVal_val {v} : resVal (some (.val v s)) = some v := rfl
theorem key_beq {a b c a' b' c' : Nat} : ((⟨a, b, c⟩ : Key) == ⟨a', b', c'⟩) = (a == a' && b == b' && c == c') := by
  rw [Bool.eq_iff_iff]
  simp [and_assoc]
theorem key_nil {k : Key} : ([] : List Key).contains k = false := rfl
theorem key_cons {k q : Key} {r : List Key} : (q :: r).contains k = (k == q || r.contains k) := List.contains_cons
theorem qState_some {E : Env} {X : List Key} : qState E (some X) s = St.dels E X s := rfl
theorem fget_nil {τ} : fget τ [] = [] := rfl
theorem fget_cons {τ t r} : fget τ (t :: r) = (t, tget τ t) :: fget τ r := rfl
theorem le_add2 {c d e : Nat} : (c ≤ c + (d + e)) = True := eq_true (Nat.le_add_right ..)
theorem le_add1 {c d : Nat} (h : (c ≤ d) = True) : (c ≤ d + 1) = True := eq_true (Nat.le_succ_of_le (of_eq_true h))
theorem touchs {E : Env} {d : Option Tmp} {ty : TypeId} {pos : String} {af : Array Edge} {g : Option (Nat × Bool)} {X : List Key} :
    (∀ t p x, touchOk E { dst := d, op := .store t p x, type := ty, pos := pos, after := af, guard := g } s X = ((match evalO s p with | .ptr k _ _ _ => X.contains k | _ => false) && (refsL (cellsV (evalO s x))).isEmpty)) ∧
    (∀ x, touchOk E { dst := d, op := .assign x, type := ty, pos := pos, after := af, guard := g } s X = aok E (d.getD E.n) (evalO s x)) ∧
    (∀ t, touchOk E { dst := d, op := .alloc t, type := ty, pos := pos, after := af, guard := g } s X = X.contains ⟨E.lvl, d.getD E.n, 0⟩) ∧
    (∀ t x, touchOk E { dst := d, op := .box t x, type := ty, pos := pos, after := af, guard := g } s X = (!E.frz.contains (d.getD E.n) && X.contains ⟨E.lvl, d.getD E.n, 0⟩ && (refsL (cellsV (evalO s x))).isEmpty)) ∧
    (∀ t n ps, touchOk E { dst := d, op := .buildSlice t n ps, type := ty, pos := pos, after := af, guard := g } s X = (X.contains ⟨E.lvl, d.getD E.n, 0⟩ && (refsL (evalOs s (ps.toList.map (·.2)))).all (X.contains ·))) ∧
    (∀ t n m, touchOk E { dst := d, op := .makeSlice t n m, type := ty, pos := pos, after := af, guard := g } s X = X.contains ⟨E.lvl, d.getD E.n, 0⟩) ∧
    (∀ f xs ts, touchOk E { dst := d, op := .call { callee := .value f, args := xs, argTypes := ts }, type := ty, pos := pos, after := af, guard := g } s X = (!impCall E (.call { callee := .value f, args := xs, argTypes := ts }) && (refs (evalO s f) ++ refsL (evalOs s xs.toList)).all (X.contains ·))) ∧
    (∀ x y ts, touchOk E { dst := d, op := .call { callee := .builtin .append, args := #[x, y], argTypes := ts }, type := ty, pos := pos, after := af, guard := g } s X = (X.contains ⟨E.lvl, d.getD E.n, 0⟩ && (refs (evalO s x) ++ (refs (evalO s y) ++ [])).all (X.contains ·))) :=
  ⟨fun _ _ _ => rfl, fun _ => rfl, fun _ => rfl, fun _ _ => rfl, fun _ _ _ => rfl, fun _ _ _ => rfl, fun _ _ _ => rfl, fun _ _ _ => rfl⟩
theorem vmo : (type_of% @impC) ∧ (type_of% @dops) ∧ (type_of% @CS_some) ∧ (type_of% @callS_s) ∧ (type_of% @touchs) ∧ (type_of% @List.isEmpty_nil.{0}) ∧ (type_of% @aop.eq_1) ∧ (type_of% @aop.eq_2) ∧ (type_of% @aop.eq_3) ∧ (type_of% @aop.eq_4) ∧ (type_of% @aop.eq_5) ∧ (type_of% @aop.eq_6) ∧ (type_of% @aop.eq_7) ∧ (type_of% @aop.eq_8) ∧ (type_of% @aop.eq_9) ∧ (type_of% @aop.eq_10) ∧ (type_of% @aop.eq_11) ∧ (type_of% @aop.eq_12) ∧ (type_of% @aop.eq_13) ∧ (type_of% @aop.eq_14) ∧ (type_of% @aop.eq_15) ∧ (type_of% @aop.eq_16) ∧ (type_of% @aop.eq_17) ∧ (type_of% @aop.eq_18) ∧ (type_of% @aop.eq_19) ∧ (type_of% @aop.eq_20) ∧ (type_of% @aop.eq_21) ∧ (type_of% @aop.eq_22) ∧ (type_of% @aop.eq_23) ∧ (type_of% @aop.eq_24) ∧ (type_of% @aop.eq_25) ∧ (type_of% @aop.eq_26) ∧ (type_of% @aop.eq_27) ∧ (type_of% @aop.eq_28) :=
  ⟨@impC, @dops, @CS_some, @callS_s, @touchs, @List.isEmpty_nil.{0}, @aop.eq_1, @aop.eq_2, @aop.eq_3, @aop.eq_4, @aop.eq_5, @aop.eq_6, @aop.eq_7, @aop.eq_8, @aop.eq_9, @aop.eq_10, @aop.eq_11, @aop.eq_12, @aop.eq_13, @aop.eq_14, @aop.eq_15, @aop.eq_16, @aop.eq_17, @aop.eq_18, @aop.eq_19, @aop.eq_20, @aop.eq_21, @aop.eq_22, @aop.eq_23, @aop.eq_24, @aop.eq_25, @aop.eq_26, @aop.eq_27, @aop.eq_28⟩
theorem vmd : (type_of% @vmo) ∧ (type_of% @R_drawI) ∧ (type_of% @RI_some) ∧ (type_of% @RL_nil) ∧ (type_of% @RL_quiet) ∧ (type_of% @RL_actor) ∧ (type_of% @RW_tt) ∧ (type_of% @RW_ff) ∧ (type_of% @RAW_tt) ∧ (type_of% @RAW_ff) ∧ (type_of% @RQ_some) ∧ (type_of% @RA_val) ∧ (type_of% @RA_val_none) ∧ (type_of% @wg_bool) ∧ (type_of% @wg_off) ∧ (type_of% @wanted_no) ∧ (type_of% @wanted_g) ∧ (type_of% @qop_call) ∧ (type_of% @qop_len) ∧ (type_of% @qops) ∧ (type_of% @CQ_some) ∧ (type_of% @callQ_s) ∧ (type_of% @resVal_val) ∧ (type_of% @resVal_valOf) ∧ (type_of% @key_beq) ∧ (type_of% @key_nil) ∧ (type_of% @key_cons) ∧ (type_of% @qState_some) ∧ (type_of% @fget_nil) ∧ (type_of% @fget_cons) ∧ (type_of% @le_add2) ∧ (type_of% @le_add1) ∧ (type_of% @Nat.le_refl) ∧ (type_of% @Bool.and_true) ∧ (type_of% @Bool.true_and) :=
  ⟨@vmo, @R_drawI, @RI_some, @RL_nil, @RL_quiet, @RL_actor, @RW_tt, @RW_ff, @RAW_tt, @RAW_ff, @RQ_some, @RA_val, @RA_val_none, @wg_bool, @wg_off, @wanted_no, @wanted_g, @qop_call, @qop_len, @qops, @CQ_some, @callQ_s, @resVal_val, @resVal_valOf, @key_beq, @key_nil, @key_cons, @qState_some, @fget_nil, @fget_cons, @le_add2, @le_add1, @Nat.le_refl, @Bool.and_true, @Bool.true_and⟩
end Go.Vi
namespace Go.Vi
open Go
def oput (O : Heap) (k : Key) (x : Nat × Obj) : Heap := fun q => if q = k then some x else O q
theorem oput_get {O : Heap} {k q : Key} {x : Nat × Obj} : oput O k x q = if q = k then some x else O q := rfl
theorem key_eq {a b c a' b' c' : Nat} : ((⟨a, b, c⟩ : Key) = ⟨a', b', c'⟩) = (a = a' ∧ b = b' ∧ c = c') := by simp
theorem heapOf_get {lvl : Nat} {L : Loc} {O : Heap} {l sl off : Nat} : heapOf lvl L O ⟨l, sl, off⟩ = if l = lvl then lget L (sl, off) else if l < lvl then O ⟨l, sl, off⟩ else none := rfl
theorem lower_get {lvl : Nat} {O : Heap} {l sl off : Nat} : lower lvl O ⟨l, sl, off⟩ = if l < lvl then O ⟨l, sl, off⟩ else none := rfl
variable {M : Mc} {k : K} {s : St}
theorem obj_lo {E : Env} {l sl off v : Nat} (h : l < E.lvl) : St.obj E s ⟨l, sl, off⟩ v = ob (s.O ⟨l, sl, off⟩) v := by
  unfold St.obj
  rw [if_neg (by dsimp only; omega), if_pos h]
  rfl
theorem put_lo {E : Env} {l sl off v : Nat} {o : Obj} (h : l < E.lvl) : St.put E s ⟨l, sl, off⟩ v o = ⟨s.τ, s.L, oput s.O ⟨l, sl, off⟩ (v, o), s.c⟩ := by
  unfold St.put
  rw [if_neg (by dsimp only; omega)]
  rfl
theorem mergeL_get {lvl : Nat} {O : Heap} : ∀ (ks : List (Nat × Nat)) (acc : Loc) (q : Nat × Nat) (x : Nat × Obj), q ∈ ks ∨ lget acc q = some x → O ⟨lvl, q.1, q.2⟩ = some x → lget (mergeL lvl O ks acc) q = some x
  | [], acc, q, x, h, _ => by
    rcases h with h | h
    · cases h
    · exact h
  | p :: r, acc, q, x, h, hO => by
    unfold mergeL
    split
    · rename_i o ho
      refine mergeL_get r _ q x ?_ hO
      rw [lget_lput]
      by_cases e : q = p
      · subst e
        rw [hO] at ho
        injection ho with ho
        exact .inr (by rw [if_pos rfl, ho])
      · rcases h with h | h
        · rcases List.mem_cons.1 h with h | h
          · exact absurd h e
          · exact .inl h
        · exact .inr (by rw [if_neg e]; exact h)
    · rename_i ho
      refine mergeL_get r _ q x ?_ hO
      rcases h with h | h
      · rcases List.mem_cons.1 h with h | h
        · subst h; rw [hO] at ho; cases ho
        · exact .inl h
      · exact .inr h
theorem keysOf_mem : ∀ (L : Loc) (q : Nat × Nat) (x : Nat × Obj), lget L q = some x → q ∈ keysOf L
  | [], q, x, h => by cases h
  | (p, (v, o)) :: r, q, x, h => by
    simp only [lget] at h
    by_cases e : q = p
    · subst e
      cases o <;> simp [keysOf]
    · rw [if_neg e] at h
      have := keysOf_mem r q x h
      cases o <;> simp [keysOf, this]
theorem back_get {E : Env} {c' : Nat} {O' : Heap} {sl off : Nat} {x y : Nat × Obj} (h : lget s.L (sl, off) = some x) (hO : O' ⟨E.lvl, sl, off⟩ = some y) : lget (back E s c' O').L (sl, off) = some y :=
  mergeL_get _ _ _ _ (.inl (keysOf_mem _ _ _ h)) hO
theorem round_of {call : CallFn} {C : Ctx} {n : Nat} {q : Key} {ver : Nat} {args : List V} {lvl c : Nat} {O : Heap} {h : Lp} {τ : List (Nat × V)} {ps : List Nat} {as bd : Code} {pd : Option Code} {s1 s2 s3 s4 : St} {e : Ex} {j : Option Code}
    (h0 : O q = some (ver, .loop h τ ps as bd .ready pd)) (ha : args.length = ps.length ∧ q.lvl < lvl ∧ h.ok.all (C.ok.contains ·) = true ∧ ps.all (· < h.n) = true)
    (h1 : R ⟨call, envLp C.P h lvl, C.hand, n⟩ as .top ⟨setPs τ ps args, [], O, c⟩ = some (.norm, s1)) (h2 : setLoop (envLp C.P h lvl) q ver .ready .busy none s1 = some s2)
    (h3 : R ⟨call, envLp C.P h lvl, C.hand, n⟩ bd .top s2 = some (e, s3)) (h4 : jumpOf e = some j) (h5 : setLoop (envLp C.P h lvl) q ver .busy (if j.isNone then .ready else .done) (some j) s3 = some s4) :
    roundV call C n q ver args lvl c O = some (j.isNone, s4.c, lower lvl s4.O) := by
  unfold roundV
  rw [h0]
  dsimp only
  rw [if_pos ⟨rfl, ha⟩]
  simp only [R, evM, K.back] at h1 h3
  rw [h1]
  dsimp only
  rw [h2]
  dsimp only
  rw [h3]
  dsimp only
  rw [h4]
  dsimp only
  rw [h5]
  rfl
theorem evF_at {C : Ctx} {g : FuncId} {fn : Func} {b : Code} {args : List V} {n lvl c : Nat} {O : Heap} {s' : St} (hf : C.P.funcs[g]? = some fn) (hb : fn.body = some b) (hl : args.length ≤ fn.ntmps) (hr : fn.results.toList = [])
    (h : R ⟨evF C n, envOf C g fn lvl, C.hand, n⟩ b .top ⟨params 0 args, [], O, c⟩ = some (.norm, s') ∨ R ⟨evF C n, envOf C g fn lvl, C.hand, n⟩ b .top ⟨params 0 args, [], O, c⟩ = some (.ret, s')) :
    (evF C (n + 1)).fn g args lvl c O = some (.ret (.tup []), s'.c, lower lvl s'.O) := by
  simp only [R, evM, K.back] at h
  unfold evF
  simp only [hf, hb, if_pos hl]
  rcases h with h | h <;> simp only [h, hr, resV, Option.bind_some, exports, seals, exports0, nodupK, refsL, exportT, if_true, tupV]
theorem R_range {f : Operand} {ps : Array Nat} {as bd : Code} {g : FuncId} {first caps : List V} {c' : Nat} {O' : Heap} {h : Lp} {τ : List (Nat × V)} {ps' : List Nat} {as' bd' : Code} {st : Ls} {pd : Option Code} {e : Ex}
    (hv : evalO s f = .fn (.func g) first caps) (hg : M.E.ok.contains g = true) (hi : M.E.inr = false)
    (hc : M.call.fn g (first ++ [.mref (loopKey M.E) s.c] ++ caps) (M.E.lvl + 1) (s.c + 1) (heapOf M.E.lvl (lput s.L (M.E.n + 1, 0) (s.c, .loop (lpOf M.E) s.τ ps.toList as bd .ready none)) s.O) = some (.ret (.tup []), c', O'))
    (ho : O' (loopKey M.E) = some (s.c, .loop h τ ps' as' bd' st pd)) (hst : st ≠ .busy) (hj : jumpEx pd = some e) :
    R M (.rangeFunc f ps as bd) k s = X M e k ((back M.E ⟨s.τ, lput s.L (M.E.n + 1, 0) (s.c, .loop (lpOf M.E) s.τ ps.toList as bd .ready none), s.O, s.c + 1⟩ c' O').del M.E (loopKey M.E)) := by
  unfold R X evM
  conv => lhs; unfold evC
  unfold rangeV
  rw [hv]
  dsimp only
  rw [if_pos ⟨hg, hi⟩]
  have hp : s.put M.E (loopKey M.E) s.c (.loop (lpOf M.E) s.τ ps.toList as bd .ready none) = ⟨s.τ, lput s.L (M.E.n + 1, 0) (s.c, .loop (lpOf M.E) s.τ ps.toList as bd .ready none), s.O, s.c⟩ := put_s rfl
  rw [hp]
  dsimp only [St.heap]
  rw [hc]
  dsimp only [Option.bind_some]
  unfold rangeEnd
  dsimp only
  have hob : (back M.E ⟨s.τ, lput s.L (M.E.n + 1, 0) (s.c, .loop (lpOf M.E) s.τ ps.toList as bd .ready none), s.O, s.c + 1⟩ c' O').obj M.E (loopKey M.E) s.c = some (.loop h τ ps' as' bd' st pd) := by
    unfold St.obj
    rw [if_pos (show (loopKey M.E).lvl = M.E.lvl from rfl)]
    have hb : lget (back M.E ⟨s.τ, lput s.L (M.E.n + 1, 0) (s.c, .loop (lpOf M.E) s.τ ps.toList as bd .ready none), s.O, s.c + 1⟩ c' O').L ((loopKey M.E).slot, (loopKey M.E).off) = some (s.c, .loop h τ ps' as' bd' st pd) :=
      back_get (x := (s.c, .loop (lpOf M.E) s.τ ps.toList as bd .ready none)) (show lget (lput s.L (M.E.n + 1, 0) (s.c, .loop (lpOf M.E) s.τ ps.toList as bd .ready none)) (M.E.n + 1, 0) = _ by rw [lget_lput, if_pos rfl]) ho
    rw [hb]
    show ob (some (s.c, _)) s.c = _
    unfold ob
    dsimp only
    rw [if_pos rfl]
  rw [hob]
  dsimp only
  rw [if_neg hst, hj]
  rfl
end Go.Vi
namespace Go.Vi
open Go Go.ChangeShapes Go.WideShapes Go.ChangeAt Go.RowKit
def oldB (w : World) : Nat → Prop := fun b => b < w.heap.size
structure Opens {α : Type} (P : Program) (t : TypeId) (f : α → V) : Prop where
  op : ∀ {H : Type} {enc : TypeId × Value → H} {w : World} {fuel : Nat} {cs : List Value} {x : DataW H × List MemPlace}, DataW.trod enc P w 0 (fun _ => true) true fuel t cs = some x → ∃ a, PCs w (oldB w) (cellsV (f a)) cs
  sz : ∀ a, (cellsV (f a)).length = P.cellsOf t
theorem Opens.map {α β : Type} {P : Program} {t : TypeId} {f : α → V} (h : Opens P t f) (g : α → β) {f' : β → V} (e : ∀ a, f' (g a) = f a) (hs : ∀ b, (cellsV (f' b)).length = P.cellsOf t) : Opens P t f' :=
  ⟨fun hx => let ⟨a, ha⟩ := h.op hx; ⟨g a, by rw [e]; exact ha⟩, hs⟩
theorem TrodAll_carry {H : Type} {enc : TypeId × Value → H} {P : Program} {w w' : World} {base : Nat} {sp : Nat → Bool} {held : Bool} : ∀ {ts : List TypeId} {vs : List Value} {ds : List (DataW H)} {ps : List MemPlace}, DataW.TrodAll enc P w base sp held ts vs ds ps → (∀ p ∈ ps, w.sameAt w' p) → DataW.TrodAll enc P w' base sp held ts vs ds ps
  | [], [], [], _, h, _ => h
  | _ :: _, _ :: _, _ :: _, _, ⟨p, q, ⟨n, h1⟩, h2, e⟩, hs => ⟨p, q, ⟨n, DataW.trod_carry n _ _ _ h1 (fun x hx => hs x (by rw [e]; exact List.mem_append_left _ hx))⟩, TrodAll_carry h2 (fun x hx => hs x (by rw [e]; exact List.mem_append_right _ hx)), e⟩
theorem law_post {H : Type} {enc : TypeId × Value → H} {P : Program} {f : Func} {s : ChangeSpec} {W W' : World} {args : Array Value} {ds gs : List (DataW H)} {before : List MemPlace} {A : Nat → Prop} {e : Ending} {tb : TypeId}
    (K : Kids P (· < P.types.size)) (full : ∀ t e, t < P.types.size → P.underlying t = some (.slice e) → 0 < P.cellsOf e) (hts : ∀ t ∈ f.params.toList, t < P.types.size) (hvars : s.vars = []) (hres : f.resultTypes = #[tb]) (hb : P.underlying tb = some .bool)
    (hW : DataW.Whole enc P f.params.toList s.vars false W args.toList ds gs before) (hfn : s.fn H (ds ++ gs) = { results := [.lit (.bool true)], args := ds }) (hout : PureOut W A (.ret (.bool true)) e W') :
    ∃ v, e = .returned v ∧ s.post enc P f false true false false W args v W' := by
  obtain ⟨A', t, hA', cv, l, rfl, hrc, _, _⟩ := hout
  have hcv : cv = .bool true := by
    simp only [RC, IC, PC] at hrc
    exact hrc.2
  subst hcv
  have hold : ∀ b, b < W.heap.size → W'.heap[b]? = W.heap[b]? := fun b hb => t.old b hb noM
  refine ⟨_, rfl, ds, gs, before, [], before, [], hW, ?_, ?_, ?_, ?_, fun h => by cases h⟩
  · rw [hfn, hres]
    exact trodAll_mk1 (shut_bool hb true)
  · rw [hfn]
    obtain ⟨p, q, hA0, hV, e, _, _⟩ := hW
    rw [hvars] at hV
    obtain ⟨rfl, rfl⟩ := trodVars_none hV
    rw [List.append_nil] at e
    subst e
    refine TrodAll_carry (DataW.TrodAll.respare K full hts hA0 (fun p hp => by simpa using hA0.lt p hp)) fun p hp => ?_
    have hlt := hA0.lt p hp
    cases p with
    | cell b off => exact cell_same (hold b hlt)
    | map b => exact hold b hlt
  · rw [hvars, hfn]
    exact rfl
  · refine ⟨t.os, t.output, fun i hi => ?_⟩
    rw [hold i hi]
    split
    · rename_i h1 h2
      rw [h1] at h2
      injection h2 with h2
      injection h2 with e1 e2 e3
      subst e1; subst e2; subst e3
      exact ⟨rfl, rfl, rfl, fun _ _ => rfl⟩
    · rename_i h1 h2
      rw [h1] at h2
      injection h2 with h2
      injection h2 with e1 e2
      subst e1; subst e2
      exact .inr ⟨rfl, rfl⟩
    · rfl
end Go.Vi
namespace Go.Vi
open Go Go.ChangeShapes Go.WideShapes Go.ChangeAt Go.RowKit
def OpS {α : Type} (P : Program) (t : TypeId) (f : α → V) (ok : α → Prop) (m : Nat) : Prop :=
  ∀ {H : Type} {enc : TypeId × Value → H} {w : World} {cs : List Value} {x : DataW H × List MemPlace}, DataW.trod enc P w 0 (fun _ => true) true m t cs = some x → (∀ n ∈ x.1.weights P t, n ≤ reachBytes) → ∃ a, PCs w (oldB w) (cellsV (f a)) cs ∧ ok a
theorem opS_int {P : Program} {t : TypeId} {k : IntKind} {m : Nat} (ht : P.underlying t = some (.int k)) : OpS P t (fun n : Int => V.int k n) (fun _ => True) m := fun hx _ => by
  obtain ⟨n, rfl, _, _⟩ := DataW.trod_int ht hx
  exact ⟨n, by simp [cellsV, PCs, PC], trivial⟩
theorem opS_str {P : Program} {t : TypeId} {m : Nat} (ht : P.underlying t = some .string) : OpS P t V.str (fun s => s.length ≤ reachBytes) m := fun hx hz => by
  obtain ⟨s, rfl, rfl, _⟩ := DataW.trod_string ht hx
  exact ⟨s.data.toList, by simp [cellsV, PCs, PC, str_of], hz _ (by simp [DataW.weights])⟩
theorem weights_all {H : Type} {P : Program} {e : TypeId} : ∀ {l : List (DataW H)} {d : DataW H}, d ∈ l → ∀ n ∈ d.weights P e, n ∈ DataW.weightsAll P e l
  | d0 :: r, d, hd, n, hn => by
    simp only [DataW.weightsAll, List.mem_append]
    rcases List.mem_cons.1 hd with rfl | hd
    · exact .inl hn
    · exact .inr (weights_all hd n hn)
theorem opS_rows {α : Type} {H : Type} {enc : TypeId × Value → H} {P : Program} {e : TypeId} {f : α → V} {ok : α → Prop} {m : Nat} (he : OpS P e f ok m) (hsz : ∀ a, (cellsV (f a)).length = P.cellsOf e) {w : World} {b off len : Nat} (h : ∀ i, i < len → ∃ y, (w.cells? 0 ⟨b, off + i * P.cellsOf e, none⟩ (P.cellsOf e)).bind (DataW.trod enc P w 0 (fun _ => true) true m e) = some y ∧ ∀ n ∈ y.1.weights P e, n ≤ reachBytes) :
    ∀ n i, i + n = len → ∃ l : List α, l.length = n ∧ (∀ a ∈ l, ok a) ∧ PEs w (oldB w) b (off + i * P.cellsOf e) (P.cellsOf e) (l.map f)
  | 0, i, _ => ⟨[], rfl, fun a h => (by cases h), by simp [PEs]⟩
  | n + 1, i, hi => by
    obtain ⟨l, hl, hok, hp⟩ := opS_rows he hsz h n (i + 1) (by omega)
    obtain ⟨y, hy, hz⟩ := h i (by omega)
    simp only [Option.bind_eq_some_iff] at hy
    obtain ⟨cs, hcs, hy⟩ := hy
    obtain ⟨a, ha, hao⟩ := he hy hz
    refine ⟨a :: l, by simp [hl], fun c hc => (List.mem_cons.1 hc).elim (fun e => e ▸ hao) (hok c), ?_⟩
    simp only [List.map_cons]
    have e1 : off + (i + 1) * P.cellsOf e = off + i * P.cellsOf e + P.cellsOf e := by rw [Nat.add_mul]; omega
    rw [e1] at hp
    refine PEs_cons_mk (PEs_one.2 ⟨hsz a, ?_⟩) hp
    obtain ⟨h1, h2, h3⟩ := World.cells?_some hcs
    refine PAt_mk ha (fun _ _ h => h) fun j v hj => ?_
    have hjl : j < P.cellsOf e := by rw [← h2]; exact (List.getElem?_eq_some_iff.1 hj).1
    have := h3 j hjl
    rw [add_at] at this
    rw [this, hj]
theorem opS_slice {α : Type} {P : Program} {t e : TypeId} {f : α → V} {ok : α → Prop} {m : Nat} (ht : P.underlying t = some (.slice e)) (he : ∀ n, n < m → OpS P e f ok n) (hsz : ∀ a, (cellsV (f a)).length = P.cellsOf e) (hpos : 0 < P.cellsOf e) : OpS P t (fun l : List α => V.lst (l.map f)) (fun l => ∀ a ∈ l, ok a) m := by
  intro H enc w cs x hx hz
  rcases DataW.trod_slice ht hx with ⟨rfl, _⟩ | ⟨a, len, cap, elems, rest, n, hn, rfl, hxe, hb, hl, hm, hlen, hel, _, _⟩
  · exact ⟨[], by simp only [cellsV, PCs, PC, List.map_nil, List.length_nil]; exact ⟨_, _, rfl, ⟨none, 0, rfl, Nat.le_refl _, by omega, fun h => absurd rfl h⟩, rfl⟩, fun a h => (by cases h)⟩
  · by_cases h0 : len = 0
    · subst h0
      exact ⟨[], by simp only [cellsV, PCs, PC, List.map_nil, List.length_nil]; exact ⟨_, _, rfl, ⟨some a, cap, rfl, Nat.zero_le _, by unfold maxLen at hm; omega, fun h => absurd rfl h⟩, rfl⟩, fun a h => (by cases h)⟩
    · have hsome : ∀ i, i < len → ∃ y, (w.cells? 0 (a.add (i * P.cellsOf e)) (P.cellsOf e)).bind (DataW.trod enc P w 0 (fun _ => true) true n e) = some y ∧ ∀ k ∈ y.1.weights P e, k ≤ reachBytes := fun i hi => by
        have := hel i hi
        rw [List.getElem?_eq_getElem (by omega)] at this
        refine ⟨_, this, fun k hk => hz k ?_⟩
        subst hxe
        simp only [DataW.weights, ht, List.mem_cons, List.mem_append]
        exact .inr (.inl (weights_all (List.mem_map.2 ⟨_, List.getElem_mem (by omega), rfl⟩) k hk))
      obtain ⟨y0, hy0, _⟩ := hsome 0 (by omega)
      simp only [Option.bind_eq_some_iff] at hy0
      obtain ⟨cs0, hcs0, _⟩ := hy0
      have hblk := World.cells?_block hcs0 hpos
      obtain ⟨_, g2, g3⟩ := World.cells?_some hcs0
      have hc0 := g3 0 hpos
      obtain ⟨b, off, spot⟩ := a
      have hspot : spot = none := by
        have hv : cs0[0]? = some (cs0[0]'(by omega)) := List.getElem?_eq_getElem _
        rw [hv] at hc0
        have := World.cell?_spot hc0
        simpa [Addr.add] using this
      subst hspot
      obtain ⟨l, hll, hok, hp⟩ := opS_rows (enc := enc) (m := n) (he n (by omega)) hsz (b := b) (off := off) (len := len) (fun i hi => by
        have := hsome i hi
        rwa [add_at] at this) len 0 (by omega)
      refine ⟨l, ?_, hok⟩
      simp only [cellsV, PCs, PC, List.length_map, hll]
      refine ⟨_, _, rfl, ⟨some ⟨b, off, none⟩, cap, rfl, hl, by unfold maxLen at hm; omega, fun _ => ⟨b, off, P.cellsOf e, rfl, ?_, ?_⟩⟩, rfl⟩
      · simpa [Addr.add, oldB] using hblk
      · simpa using hp
def OpSF {β : Type} (P : Program) (fs : List Field) (off : Nat) (g : β → List V) (ok : β → Prop) (m : Nat) : Prop :=
  ∀ {H : Type} {enc : TypeId × Value → H} {w : World} {cs : List Value}, (∀ F ∈ fs, ∃ x, DataW.trod enc P w 0 (fun _ => true) true m F.type ((cs.drop F.offset).take (P.cellsOf F.type)) = some x ∧ ∀ n ∈ x.1.weights P F.type, n ≤ reachBytes) →
    cs.length = off + (fs.map fun F => P.cellsOf F.type).sum → ∃ b, PCs w (oldB w) (g b) (cs.drop off) ∧ ok b
theorem opSF_nil {P : Program} {off m : Nat} : OpSF P [] off (fun _ : Unit => []) (fun _ => True) m := by
  intro H enc w cs _ hl
  refine ⟨(), ?_, trivial⟩
  simp only [PCs]
  exact List.drop_eq_nil_of_le (by simp at hl; omega)
theorem opSF_cons {α β : Type} {P : Program} {F : Field} {fs : List Field} {off m : Nat} {f : α → V} {g : β → List V} {o1 : α → Prop} {o2 : β → Prop} (hF : F.offset = off) (h : OpS P F.type f o1 m) (hr : OpSF P fs (off + P.cellsOf F.type) g o2 m) : OpSF P (F :: fs) off (fun p : α × β => cellsV (f p.1) ++ g p.2) (fun p => o1 p.1 ∧ o2 p.2) m := by
  intro H enc w cs hx hl
  obtain ⟨x, h1, h2⟩ := hx F (by simp)
  obtain ⟨a, ha, hao⟩ := h h1 h2
  obtain ⟨b, hb, hbo⟩ := hr (fun G hG => hx G (by simp [hG])) (by simp only [List.map_cons, List.sum_cons] at hl; omega)
  refine ⟨(a, b), ?_, hao, hbo⟩
  have e : cs.drop off = (cs.drop off).take (P.cellsOf F.type) ++ cs.drop (off + P.cellsOf F.type) := by
    rw [← List.drop_drop, List.take_append_drop]
  rw [e]
  rw [hF] at ha
  exact ha.app hb
theorem opS_struct {β : Type} {P : Program} {t : TypeId} {fs : Array Field} {g : β → List V} {ok : β → Prop} {m : Nat} (ht : P.underlying t = some (.struct fs)) (hg : ∀ n, n < m → OpSF P fs.toList 0 g ok n) (hsum : P.cellsOf t = (fs.toList.map fun F => P.cellsOf F.type).sum) : OpS P t (fun b => V.agg (g b)) ok m := by
  intro H enc w cs x hx hz
  obtain ⟨xs, n, hn, hxe, hl, hxl, hxs⟩ := DataW.trod_struct ht hx
  obtain ⟨b, hb, hbo⟩ := hg n (by omega) (fun F hF => by
    obtain ⟨i, hi⟩ := List.getElem?_of_mem hF
    have hi' : fs[i]? = some F := by simpa using hi
    have := hxs i F hi'
    have hlt : i < xs.length := by rw [hxl]; exact (Array.getElem?_eq_some_iff.1 hi').1
    rw [List.getElem?_eq_getElem hlt] at this
    refine ⟨_, this, fun k hk => hz k ?_⟩
    subst hxe
    simp only [DataW.weights, ht]
    exact DataW.weights_mem_each (j := i) (by rw [List.getElem?_map, hi]; rfl) (by rw [List.getElem?_map, List.getElem?_eq_getElem hlt]; rfl) k hk) (by rw [hl, hsum]; omega)
  exact ⟨b, by simpa [cellsV] using hb, hbo⟩
theorem argS_slice {α H : Type} {enc : TypeId × Value → H} {P : Program} {t e : TypeId} {f : α → V} {ok : List α → Prop} {w : World} {base : Nat} {v : Value} {d : DataW H} {p : List MemPlace} (ht : P.underlying t = some (.slice e)) (ho : ∀ m, OpS P t (fun l : List α => V.lst (l.map f)) ok m) (hv : Value.okWide P w .any base t v) (h : DataW.Trod enc P w 0 (fun _ => true) true t v d p) (hz : ∀ n ∈ d.weights P t, n ≤ reachBytes) :
    ∃ l : List α, PC w (oldB w) (.lst (l.map f)) v ∧ ok l := by
  obtain ⟨a, len, cap, rfl⟩ := okWide_slice ht hv
  obtain ⟨fuel, hx⟩ := h
  obtain ⟨b, hb, hbo⟩ := ho fuel hx hz
  simp only [cellsV, PCs, Value.cells] at hb
  obtain ⟨c, d, e, h1, h2⟩ := hb
  injection e with e1 e2
  exact ⟨b, by rw [e1]; exact h1, hbo⟩
end Go.Vi
namespace Go.Vi
open Go
theorem vza : (type_of% @decide_true) ∧ (type_of% @decide_false) ∧ (type_of% @evalO.eq_1) ∧ (type_of% @evalO.eq_2) ∧ (type_of% @evalO.eq_3) ∧ (type_of% @evalO.eq_4) ∧ (type_of% @evalOs.eq_1) ∧ (type_of% @evalOs.eq_2) ∧ (type_of% @ofValue.eq_1) ∧ (type_of% @ofValue.eq_2) ∧ (type_of% @ofLeaf.eq_1) ∧ (type_of% @ofLeaf.eq_2) ∧ (type_of% @ofLeaf.eq_3) ∧ (type_of% @ofLeaf.eq_4) ∧ (type_of% @ofLeaf.eq_5) ∧ (type_of% @ofLeaf.eq_6) ∧ (type_of% @ofLeaf.eq_7) ∧ (type_of% @ofLeaf.eq_8) ∧ (type_of% @ofLeaf.eq_9) ∧ (type_of% @params.eq_1) ∧ (type_of% @params.eq_2) ∧ (type_of% @tget.eq_1) ∧ (type_of% @tget.eq_2) ∧ (type_of% @sub.eq_1) ∧ (type_of% @sub.eq_2) ∧ (type_of% @sub.eq_3) ∧ (type_of% @sub.eq_4) ∧ (type_of% @sub.eq_5) ∧ (type_of% @sub.eq_6) ∧ (type_of% @sub.eq_7) ∧ (type_of% @sub.eq_8) ∧ (type_of% @sub.eq_9) :=
  ⟨@decide_true, @decide_false, @evalO.eq_1, @evalO.eq_2, @evalO.eq_3, @evalO.eq_4, @evalOs.eq_1, @evalOs.eq_2, @ofValue.eq_1, @ofValue.eq_2, @ofLeaf.eq_1, @ofLeaf.eq_2, @ofLeaf.eq_3, @ofLeaf.eq_4, @ofLeaf.eq_5, @ofLeaf.eq_6, @ofLeaf.eq_7, @ofLeaf.eq_8, @ofLeaf.eq_9, @params.eq_1, @params.eq_2, @tget.eq_1, @tget.eq_2, @sub.eq_1, @sub.eq_2, @sub.eq_3, @sub.eq_4, @sub.eq_5, @sub.eq_6, @sub.eq_7, @sub.eq_8, @sub.eq_9⟩
theorem vzb : (type_of% @aok.eq_1) ∧ (type_of% @aok.eq_2) ∧ (type_of% @aok.eq_3) ∧ (type_of% @aok.eq_4) ∧ (type_of% @aok.eq_5) ∧ (type_of% @builtinV.eq_1) ∧ (type_of% @builtinV.eq_2) ∧ (type_of% @builtinV.eq_3) ∧ (type_of% @builtinV.eq_4) ∧ (type_of% @builtinV.eq_5) ∧ (type_of% @builtinV.eq_6) ∧ (type_of% @builtinV.eq_7) ∧ (type_of% @overwrite.eq_1) ∧ (type_of% @assignTo.eq_1) ∧ (type_of% @assignTo.eq_2) ∧ (type_of% @assignTo.eq_3) ∧ (type_of% @assignTo.eq_4) ∧ (type_of% @assignTo.eq_5) ∧ (type_of% @assignTo.eq_6) ∧ (type_of% @assignTo.eq_7) ∧ (type_of% @settle1.eq_1) ∧ (type_of% @settle1.eq_2) ∧ (type_of% @settle1.eq_3) ∧ (type_of% @settleL.eq_1) ∧ (type_of% @settleL.eq_2) ∧ (type_of% @newVarV.eq_1) ∧ (type_of% @newArr.eq_1) ∧ (type_of% @cellsAt.eq_1) ∧ (type_of% @cellsAt.eq_2) ∧ (type_of% @cellsAt.eq_3) ∧ (type_of% @readT.eq_1) ∧ (type_of% @storeAt.eq_1) ∧ (type_of% @storeAt.eq_2) ∧ (type_of% @writeE.eq_1) ∧ (type_of% @writeE.eq_2) ∧ (type_of% @writeE.eq_3) ∧ (type_of% @cellsV.eq_1) ∧ (type_of% @cellsV.eq_2) ∧ (type_of% @frz.eq_1) ∧ (type_of% @frz.eq_2) ∧ (type_of% @frz.eq_3) ∧ (type_of% @frz.eq_4) ∧ (type_of% @frz.eq_5) ∧ (type_of% @frz.eq_6) ∧ (type_of% @frz.eq_7) ∧ (type_of% @frz.eq_8) ∧ (type_of% @frz.eq_9) ∧ (type_of% @frz.eq_10) ∧ (type_of% @frzs.eq_1) ∧ (type_of% @frzs.eq_2) ∧ (type_of% @refs.eq_1) ∧ (type_of% @refs.eq_2) ∧ (type_of% @refs.eq_3) ∧ (type_of% @refs.eq_4) ∧ (type_of% @refs.eq_5) ∧ (type_of% @refs.eq_6) ∧ (type_of% @refs.eq_7) ∧ (type_of% @refs.eq_8) ∧ (type_of% @refsL.eq_1) ∧ (type_of% @refsL.eq_2) ∧ (type_of% @fitsE.eq_1) ∧ (type_of% @fitsE.eq_2) ∧ (type_of% @binW.eq_1) ∧ (type_of% @nilLits) ∧ (type_of% @Bool.false_eq_true) ∧ (type_of% @isNilI.eq_1) ∧ (type_of% @isNilI.eq_2) ∧ (type_of% @binV.eq_1) ∧ (type_of% @binV.eq_2) ∧ (type_of% @binV.eq_3) ∧ (type_of% @binV.eq_4) ∧ (type_of% @binV.eq_5) ∧ (type_of% @binV.eq_6) ∧ (type_of% @binV.eq_7) ∧ (type_of% @intOp.eq_1) ∧ (type_of% @intOp.eq_2) ∧ (type_of% @intOp.eq_3) ∧ (type_of% @intOp.eq_4) ∧ (type_of% @intOp.eq_5) ∧ (type_of% @intOp.eq_6) ∧ (type_of% @intOp.eq_7) ∧ (type_of% @intOp.eq_8) ∧ (type_of% @intOp.eq_9) ∧ (type_of% @intOp.eq_10) ∧ (type_of% @intOp.eq_11) ∧ (type_of% @intOp.eq_12) ∧ (type_of% @intOp.eq_13) ∧ (type_of% @intOp.eq_14) ∧ (type_of% @intOp.eq_15) ∧ (type_of% @intOp.eq_16) ∧ (type_of% @intOp.eq_17) ∧ (type_of% @boolOp.eq_1) ∧ (type_of% @boolOp.eq_2) ∧ (type_of% @boolOp.eq_3) ∧ (type_of% @nilOp.eq_1) ∧ (type_of% @nilOp.eq_2) ∧ (type_of% @nilOp.eq_3) ∧ (type_of% @isNilS.eq_1) ∧ (type_of% @isNilS.eq_2) ∧ (type_of% @isNilS.eq_3) ∧ (type_of% @isNilS.eq_4) ∧ (type_of% @unV.eq_1) ∧ (type_of% @unV.eq_2) ∧ (type_of% @unV.eq_3) ∧ (type_of% @fillE.eq_1) ∧ (type_of% @fillE.eq_2) ∧ (type_of% @callV_s) ∧ (type_of% @CR_some) ∧ (type_of% @CD.eq_1) ∧ (type_of% @importV.eq_1) ∧ (type_of% @importV.eq_2) ∧ (type_of% @importV.eq_3) ∧ (type_of% @import1.eq_1) ∧ (type_of% @import1.eq_2) ∧ (type_of% @convI.eq_1) :=
  ⟨@aok.eq_1, @aok.eq_2, @aok.eq_3, @aok.eq_4, @aok.eq_5, @builtinV.eq_1, @builtinV.eq_2, @builtinV.eq_3, @builtinV.eq_4, @builtinV.eq_5, @builtinV.eq_6, @builtinV.eq_7, @overwrite.eq_1, @assignTo.eq_1, @assignTo.eq_2, @assignTo.eq_3, @assignTo.eq_4, @assignTo.eq_5, @assignTo.eq_6, @assignTo.eq_7, @settle1.eq_1, @settle1.eq_2, @settle1.eq_3, @settleL.eq_1, @settleL.eq_2, @newVarV.eq_1, @newArr.eq_1, @cellsAt.eq_1, @cellsAt.eq_2, @cellsAt.eq_3, @readT.eq_1, @storeAt.eq_1, @storeAt.eq_2, @writeE.eq_1, @writeE.eq_2, @writeE.eq_3, @cellsV.eq_1, @cellsV.eq_2, @frz.eq_1, @frz.eq_2, @frz.eq_3, @frz.eq_4, @frz.eq_5, @frz.eq_6, @frz.eq_7, @frz.eq_8, @frz.eq_9, @frz.eq_10, @frzs.eq_1, @frzs.eq_2, @refs.eq_1, @refs.eq_2, @refs.eq_3, @refs.eq_4, @refs.eq_5, @refs.eq_6, @refs.eq_7, @refs.eq_8, @refsL.eq_1, @refsL.eq_2, @fitsE.eq_1, @fitsE.eq_2, @binW.eq_1, @nilLits, @Bool.false_eq_true, @isNilI.eq_1, @isNilI.eq_2, @binV.eq_1, @binV.eq_2, @binV.eq_3, @binV.eq_4, @binV.eq_5, @binV.eq_6, @binV.eq_7, @intOp.eq_1, @intOp.eq_2, @intOp.eq_3, @intOp.eq_4, @intOp.eq_5, @intOp.eq_6, @intOp.eq_7, @intOp.eq_8, @intOp.eq_9, @intOp.eq_10, @intOp.eq_11, @intOp.eq_12, @intOp.eq_13, @intOp.eq_14, @intOp.eq_15, @intOp.eq_16, @intOp.eq_17, @boolOp.eq_1, @boolOp.eq_2, @boolOp.eq_3, @nilOp.eq_1, @nilOp.eq_2, @nilOp.eq_3, @isNilS.eq_1, @isNilS.eq_2, @isNilS.eq_3, @isNilS.eq_4, @unV.eq_1, @unV.eq_2, @unV.eq_3, @fillE.eq_1, @fillE.eq_2, @callV_s, @CR_some, @CD.eq_1, @importV.eq_1, @importV.eq_2, @importV.eq_3, @import1.eq_1, @import1.eq_2, @convI.eq_1⟩
theorem vzc : (type_of% @importL.eq_1) ∧ (type_of% @importL.eq_2) ∧ (type_of% @importT.eq_1) ∧ (type_of% @importT.eq_2) ∧ (type_of% @importT.eq_3) ∧ (type_of% @imm.eq_1) ∧ (type_of% @imm.eq_2) ∧ (type_of% @imm.eq_3) ∧ (type_of% @imm.eq_4) ∧ (type_of% @immL.eq_1) ∧ (type_of% @immL.eq_2) ∧ (type_of% @pureR.eq_1) ∧ (type_of% @pureR.eq_2) ∧ (type_of% @pureR.eq_3) ∧ (type_of% @pureR.eq_4) ∧ (type_of% @pureR.eq_5) ∧ (type_of% @pureR.eq_6) ∧ (type_of% @pureR.eq_7) ∧ (type_of% @pureR.eq_8) ∧ (type_of% @pureR.eq_9) ∧ (type_of% @pureRL.eq_1) ∧ (type_of% @pureRL.eq_2) ∧ (type_of% @shapeR.eq_1) ∧ (type_of% @shapeR.eq_2) ∧ (type_of% @shapeR.eq_3) ∧ (type_of% @flatR.eq_1) ∧ (type_of% @flatR.eq_2) ∧ (type_of% @flatR.eq_3) ∧ (type_of% @shares.eq_1) ∧ (type_of% @shares.eq_2) ∧ (type_of% @shares.eq_3) ∧ (type_of% @shares.eq_4) ∧ (type_of% @shares.eq_5) ∧ (type_of% @shares.eq_6) ∧ (type_of% @shares.eq_7) ∧ (type_of% @shares.eq_8) ∧ (type_of% @shares.eq_9) ∧ (type_of% @sharesL.eq_1) ∧ (type_of% @sharesL.eq_2) ∧ (type_of% @hand_cons) ∧ (type_of% @hand_nil) ∧ (type_of% @List.all_cons.{0}) ∧ (type_of% @List.all_nil.{0}) ∧ (type_of% @List.length_cons.{0}) ∧ (type_of% @List.length_nil.{0}) ∧ (type_of% @List.drop_succ_cons.{0}) ∧ (type_of% @List.drop_zero.{0}) ∧ (type_of% @List.drop_nil.{0}) ∧ (type_of% @List.head?_cons.{0}) ∧ (type_of% @List.head?_nil.{0}) ∧ (type_of% @List.cons_append.{0}) ∧ (type_of% @List.nil_append.{0}) ∧ (type_of% @List.append_nil.{0}) ∧ (type_of% @List.getElem?_cons_zero.{0}) ∧ (type_of% @List.getElem?_cons_succ.{0}) ∧ (type_of% @List.take_succ_cons.{0}) ∧ (type_of% @List.take_zero.{0}) ∧ (type_of% @List.set_cons_zero.{0}) ∧ (type_of% @List.set_cons_succ.{0}) ∧ (type_of% @List.length_map.{0, 0}) ∧ (type_of% @Bool.and_true) ∧ (type_of% @Bool.true_and) ∧ (type_of% @Bool.and_false) ∧ (type_of% @Bool.false_and) ∧ (type_of% @Bool.and_self) ∧ (type_of% @Bool.not_true) ∧ (type_of% @Bool.not_false) ∧ (type_of% @and_true) ∧ (type_of% @true_and) ∧ (type_of% @and_self) ∧ (type_of% @ne_eq.{1}) ∧ (type_of% @not_true_eq_false) ∧ (type_of% @not_false_eq_true) ∧ (type_of% @beq_self_eq_true.{0}) ∧ (type_of% @Option.isSome_none.{0}) ∧ (type_of% @Int.toNat_natCast) ∧ (type_of% @nat_nonneg) ∧ (type_of% @Nat.zero_add) ∧ (type_of% @Nat.add_zero) ∧ (type_of% @Nat.succ_ne_self) ∧ (type_of% @Nat.le_refl) ∧ (type_of% @Nat.zero_le) ∧ (type_of% @List.getElem?_map.{0, 0}) ∧ (type_of% @List.map_nil.{0, 0}) ∧ (type_of% @fillS.eq_1) ∧ (type_of% @fillS.eq_2) ∧ (type_of% @zipP.eq_1) ∧ (type_of% @zipP.eq_2) ∧ (type_of% @evalPs.eq_1) ∧ (type_of% @evalPs.eq_2) ∧ (type_of% @List.replicate_zero.{0}) ∧ (type_of% @List.replicate_succ.{0}) ∧ (type_of% @appendV.eq_1) ∧ (type_of% @appendV.eq_2) ∧ (type_of% @List.isEmpty_cons.{0}) ∧ (type_of% @Nat.mul_zero) ∧ (type_of% @Nat.zero_mul) ∧ (type_of% @true_or) ∧ (type_of% @or_true) ∧ (type_of% @or_false) ∧ (type_of% @false_or) ∧ (type_of% @List.take_length.{0}) ∧ (type_of% @ite_self.{1}) ∧ (type_of% @z0) ∧ (type_of% @z1) ∧ (type_of% @bq1) ∧ (type_of% @bq2) ∧ (type_of% @Int.toNat_zero) ∧ (type_of% @z00) ∧ (type_of% @Nat.le_add_right) :=
  ⟨@importL.eq_1, @importL.eq_2, @importT.eq_1, @importT.eq_2, @importT.eq_3, @imm.eq_1, @imm.eq_2, @imm.eq_3, @imm.eq_4, @immL.eq_1, @immL.eq_2, @pureR.eq_1, @pureR.eq_2, @pureR.eq_3, @pureR.eq_4, @pureR.eq_5, @pureR.eq_6, @pureR.eq_7, @pureR.eq_8, @pureR.eq_9, @pureRL.eq_1, @pureRL.eq_2, @shapeR.eq_1, @shapeR.eq_2, @shapeR.eq_3, @flatR.eq_1, @flatR.eq_2, @flatR.eq_3, @shares.eq_1, @shares.eq_2, @shares.eq_3, @shares.eq_4, @shares.eq_5, @shares.eq_6, @shares.eq_7, @shares.eq_8, @shares.eq_9, @sharesL.eq_1, @sharesL.eq_2, @hand_cons, @hand_nil, @List.all_cons.{0}, @List.all_nil.{0}, @List.length_cons.{0}, @List.length_nil.{0}, @List.drop_succ_cons.{0}, @List.drop_zero.{0}, @List.drop_nil.{0}, @List.head?_cons.{0}, @List.head?_nil.{0}, @List.cons_append.{0}, @List.nil_append.{0}, @List.append_nil.{0}, @List.getElem?_cons_zero.{0}, @List.getElem?_cons_succ.{0}, @List.take_succ_cons.{0}, @List.take_zero.{0}, @List.set_cons_zero.{0}, @List.set_cons_succ.{0}, @List.length_map.{0, 0}, @Bool.and_true, @Bool.true_and, @Bool.and_false, @Bool.false_and, @Bool.and_self, @Bool.not_true, @Bool.not_false, @and_true, @true_and, @and_self, @ne_eq.{1}, @not_true_eq_false, @not_false_eq_true, @beq_self_eq_true.{0}, @Option.isSome_none.{0}, @Int.toNat_natCast, @nat_nonneg, @Nat.zero_add, @Nat.add_zero, @Nat.succ_ne_self, @Nat.le_refl, @Nat.zero_le, @List.getElem?_map.{0, 0}, @List.map_nil.{0, 0}, @fillS.eq_1, @fillS.eq_2, @zipP.eq_1, @zipP.eq_2, @evalPs.eq_1, @evalPs.eq_2, @List.replicate_zero.{0}, @List.replicate_succ.{0}, @appendV.eq_1, @appendV.eq_2, @List.isEmpty_cons.{0}, @Nat.mul_zero, @Nat.zero_mul, @true_or, @or_true, @or_false, @false_or, @List.take_length.{0}, @ite_self.{1}, @z0, @z1, @bq1, @bq2, @Int.toNat_zero, @z00, @Nat.le_add_right⟩
theorem vseal {E : Env} {s : St} : (seals E [] s = s) ∧ (∀ v, seals E [v] s = sealF E v s) ∧ (∀ a b r, seals E (a :: b :: r) s = s) ∧ (sealP E [] s = s) ∧ (∀ k v i o r, sealP E (.ptr k v i o :: r) s = sealP E r (seal1 E k v s)) ∧ (∀ f a b, sealF E (.fn f a b) s = sealP E b s) ∧ (∀ k v i o, sealF E (.ptr k v i o) s = s) ∧ (∀ f a b r, sealP E (.fn f a b :: r) s = sealP E r s) ∧ (∀ k n, sealF E (.int k n) s = s) ∧ (∀ k n r, sealP E (.int k n :: r) s = sealP E r s) ∧ (∀ b, sealF E (.bool b) s = s) ∧ (∀ b r, sealP E (.bool b :: r) s = sealP E r s) ∧ (∀ b, sealF E (.str b) s = s) ∧ (∀ b r, sealP E (.str b :: r) s = sealP E r s) ∧ (∀ b, sealF E (.agg b) s = s) ∧ (∀ b r, sealP E (.agg b :: r) s = sealP E r s) ∧ (∀ b, sealF E (.tup b) s = s) ∧ (∀ b r, sealP E (.tup b :: r) s = sealP E r s) ∧ (∀ b, sealF E (.lst b) s = s) ∧ (∀ b r, sealP E (.lst b :: r) s = sealP E r s) ∧ (∀ b, sealF E (.iptr b) s = s) ∧ (∀ b r, sealP E (.iptr b :: r) s = sealP E r s) ∧ (∀ b, sealF E (.lmap b) s = s) ∧ (∀ b r, sealP E (.lmap b :: r) s = sealP E r s) ∧ (sealF E V.nilS s = s) ∧ (∀ r, sealP E (V.nilS :: r) s = sealP E r s) ∧ (sealF E V.nilP s = s) ∧ (∀ r, sealP E (V.nilP :: r) s = sealP E r s) ∧ (sealF E V.nilI s = s) ∧ (∀ r, sealP E (V.nilI :: r) s = sealP E r s) ∧ (sealF E V.nilF s = s) ∧ (∀ r, sealP E (V.nilF :: r) s = sealP E r s) ∧ (sealF E V.nilM s = s) ∧ (∀ r, sealP E (V.nilM :: r) s = sealP E r s) ∧ (∀ a b, sealF E (.iface a b) s = s) ∧ (∀ a b r, sealP E (.iface a b :: r) s = sealP E r s) ∧ (∀ a b c d, sealF E (.ref a b c d) s = s) ∧ (∀ a b c d r, sealP E (.ref a b c d :: r) s = sealP E r s) ∧ (∀ a b, sealF E (.mref a b) s = s) ∧ (∀ a b r, sealP E (.mref a b :: r) s = sealP E r s) ∧ (∀ a b, sealF E (.own a b) s = s) ∧ (∀ a b r, sealP E (.own a b :: r) s = sealP E r s) ∧ (sealF E V.junk s = s) ∧ (∀ r, sealP E (V.junk :: r) s = sealP E r s) :=
  ⟨rfl, fun _ => rfl, fun _ _ _ => rfl, rfl, fun _ _ _ _ _ => rfl, fun _ _ _ => rfl, fun _ _ _ _ => rfl, fun _ _ _ _ => rfl, fun _ _ => rfl, fun _ _ _ => rfl, fun _ => rfl, fun _ _ => rfl, fun _ => rfl, fun _ _ => rfl, fun _ => rfl, fun _ _ => rfl, fun _ => rfl, fun _ _ => rfl, fun _ => rfl, fun _ _ => rfl, fun _ => rfl, fun _ _ => rfl, fun _ => rfl, fun _ _ => rfl, rfl, fun _ => rfl, rfl, fun _ => rfl, rfl, fun _ => rfl, rfl, fun _ => rfl, rfl, fun _ => rfl, fun _ _ => rfl, fun _ _ _ => rfl, fun _ _ _ _ => rfl, fun _ _ _ _ _ => rfl, fun _ _ => rfl, fun _ _ _ => rfl, fun _ _ => rfl, fun _ _ _ => rfl, rfl, fun _ => rfl⟩
theorem vzr : (type_of% @Fin_ret) ∧ (type_of% @Fin_nrm) ∧ (type_of% @Fin_pan) ∧ (type_of% @X_top) ∧ (type_of% @resV.eq_1) ∧ (type_of% @resV.eq_2) ∧ (type_of% @resV.eq_3) ∧ (type_of% @exports.eq_1) ∧ (type_of% @exports0.eq_1) ∧ (type_of% @vseal) ∧ (type_of% @nodupK.eq_1) ∧ (type_of% @nodupK.eq_2) ∧ (type_of% @exportT.eq_1) ∧ (type_of% @exportT.eq_2) ∧ (type_of% @exportA.eq_1) ∧ (type_of% @exportA.eq_2) ∧ (type_of% @exportL.eq_1) ∧ (type_of% @exportL.eq_2) ∧ (type_of% @export1.eq_1) ∧ (type_of% @export1.eq_2) ∧ (type_of% @export1.eq_3) ∧ (type_of% @export1.eq_4) ∧ (type_of% @export1.eq_5) ∧ (type_of% @export1.eq_6) ∧ (type_of% @export1.eq_7) ∧ (type_of% @export1.eq_8) ∧ (type_of% @tupV.eq_1) ∧ (type_of% @tupV.eq_2) ∧ (type_of% @List.contains_nil.{0}) :=
  ⟨@Fin_ret, @Fin_nrm, @Fin_pan, @X_top, @resV.eq_1, @resV.eq_2, @resV.eq_3, @exports.eq_1, @exports0.eq_1, @vseal, @nodupK.eq_1, @nodupK.eq_2, @exportT.eq_1, @exportT.eq_2, @exportA.eq_1, @exportA.eq_2, @exportL.eq_1, @exportL.eq_2, @export1.eq_1, @export1.eq_2, @export1.eq_3, @export1.eq_4, @export1.eq_5, @export1.eq_6, @export1.eq_7, @export1.eq_8, @tupV.eq_1, @tupV.eq_2, @List.contains_nil.{0}⟩
end Go.Vi
namespace Go.Vi
open Go
def withT (T : FuncId → Option (List V → Option COut)) (call : CallFn) : CallFn :=
  ⟨fun g args lvl c O => match T g with
    | some F => if lvl = 0 ∧ c = 0 ∧ pureRL args = true then (F args).map fun o => (o, 0, noH) else call g args lvl c O
    | none => call g args lvl c O, call.rnd⟩
def tm (T : FuncId → Option (List V → Option COut)) (M : Mc) : Mc := ⟨withT T M.call, M.E, M.C, M.fuel⟩
theorem tm_E {T M} : (tm T M).E = M.E := rfl
theorem tm_C {T M} : (tm T M).C = M.C := rfl
theorem tm_fuel {T M} : (tm T M).fuel = M.fuel := rfl
theorem tm_call {T M} : (tm T M).call = withT T M.call := rfl
end Go.Vi
namespace Go.Vi
open Go
theorem HR.push {w w' : World} {A β c H} {ob : Go.Obj} (h : HR w A β c H) (p : Pushed w w' ob) : HR w' A β c H ∧ Tr w A β c H w' A β c H := by
  refine ⟨⟨fun k v o hk => ?_, h.sep, fun b hb => ⟨by have := (h.imm b hb).1; have := p.size; omega, (h.imm b hb).2⟩, h.fresh, h.laid.step (fun b hb => p.old (h.imm b hb).1) (fun _ h => h)⟩,
    ⟨by have := p.size; omega, p.os, p.tape, p.output, fun b hb _ => p.old hb, fun _ _ _ => rfl, Nat.le_refl _, fun _ h => h, fun _ h => .inl h, fun b hb => .inl hb⟩⟩
  obtain ⟨i, e, ho⟩ := h.obj k v o hk
  exact ⟨i, e, ho.mono (fun _ h => h) (fun b hb => sameC (p.old (h.imm b hb).1)) (fun _ _ _ h => h) (fun b hb => p.old (h.lt ⟨k, v, o, i, hk, e, hb⟩))⟩
end Go.Vi
namespace Go.Vi
open Go
theorem drop_cons {α : Type} {l r : List α} {x : α} {i : Nat} (h : l.drop i = x :: r) : l[i]? = some x ∧ l.drop (i + 1) = r ∧ i < l.length := by
  have hi : i < l.length := by
    rcases Nat.lt_or_ge i l.length with h1 | h1
    · exact h1
    · rw [List.drop_eq_nil_of_le h1] at h; cases h
  rw [List.drop_eq_getElem_cons hi] at h
  injection h with h1 h2
  exact ⟨by rw [List.getElem?_eq_getElem hi, h1], h2, hi⟩
theorem drop_nil' {α : Type} {l : List α} {i : Nat} (h : l.drop i = []) : l.length ≤ i := List.drop_eq_nil_iff.1 h
theorem wsucc {i n : Nat} (h : i < n) (hn : n ≤ 1000000) : IntKind.i64.wrap ((i:Int) + 1) = ((i + 1 : Nat) : Int) := by rw [wrap_id] <;> omega
theorem ilt {i n : Nat} (h : i < n) : ((i:Int) < (n:Int)) = True := by simp; omega
theorem inlt {i n : Nat} (h : n ≤ i) : ((i:Int) < (n:Int)) = False := by simp; omega
theorem I_inj {a b : Int} (h : I a = I b) : a = b := by injection h
theorem take_len {α β : Type} (f : α → β) (l : List α) : (l.map f).take l.length = l.map f := by
  rw [← List.length_map (f := f), List.take_length]
theorem map_inj {α : Type} {e : α → V} (he : ∀ a b, e a = e b → a = b) : ∀ {a b : List α}, a.map e = b.map e → a = b
  | [], [], _ => rfl
  | [], _ :: _, h => by cases h
  | _ :: _, [], h => by cases h
  | x :: r, y :: q, h => by
    simp only [List.map_cons] at h
    injection h with h1 h2
    rw [he _ _ h1, map_inj he h2]
theorem cans_map_id {α : Type} {e : α → V} (he : ∀ a, can (e a) = e a) : ∀ l : List α, cans (l.map e) = l.map e
  | [] => rfl
  | x :: r => by simp only [List.map_cons, cans, he x, cans_map_id he r]
theorem canI (n : Int) : can (I n) = I n := rfl
theorem two_inj {α β : Type} {e : α → V} {f : β → V} (he : ∀ a b, e a = e b → a = b) (hf : ∀ a b, f a = f b → a = b) : ∀ a b : α × β, [e a.1, f a.2] = [e b.1, f b.2] → a = b := fun a b h => by
  injection h with h1 h2; injection h2 with h2; exact Prod.ext (he _ _ h1) (hf _ _ h2)
theorem three_inj {α β γ : Type} {e : α → V} {f : β → V} {g : γ → V} (he : ∀ a b, e a = e b → a = b) (hf : ∀ a b, f a = f b → a = b) (hg : ∀ a b, g a = g b → a = b) : ∀ a b : α × β × γ, [e a.1, f a.2.1, g a.2.2] = [e b.1, f b.2.1, g b.2.2] → a = b := fun a b h => by
  injection h with h1 h2; injection h2 with h2 h3; injection h3 with h3; exact Prod.ext (he _ _ h1) (Prod.ext (hf _ _ h2) (hg _ _ h3))
theorem one_inj' {α : Type} {e : α → V} (he : ∀ a b, e a = e b → a = b) : ∀ a b : α, [e a] = [e b] → a = b := fun a b h => he a b (by injection h)
def tabT : List (FuncId × (List V → Option COut)) → FuncId → Option (List V → Option COut)
  | [], _ => none
  | (q, F) :: r, g => if g = q then some F else tabT r g
theorem tabT_nil {g} : tabT [] g = none := rfl
theorem tabT_cons {q F r g} : tabT ((q, F) :: r) g = if g = q then some F else tabT r g := rfl
def CT (E : Env) (d : Nat) (all : List V) (s : St) : Option COut → Option Res
  | some (.ret v) => CR E d all s (some v)
  | some (.pan v) => if (pureR v && !shares v) = true then some (.pan v s) else none
  | none => none
theorem CT_ret {E d all s v} : CT E d all s (some (.ret v)) = CR E d all s (some v) := rfl
theorem CT_pan {E d all s v} : CT E d all s (some (.pan v)) = if (pureR v && !shares v) = true then some (.pan v s) else none := rfl
theorem callV_t {T : FuncId → Option (List V → Option COut)} {base : CallFn} {E : Env} {H : FuncId → Option (List V → Option V)} {d : Nat} {g : FuncId} {first caps args : List V} {s : St} (hg : E.ok.contains g = true) (hi : E.imp = []) (hC : H g = none) (hT : (T g).isSome = true) (hp : (frzs E s (first ++ args ++ caps)).isSome = true) (hq : pureRL ((frzs E s (first ++ args ++ caps)).getD []) = true) :
    callV (withT T base) E H d (.fn (.func g) first caps) args s = CT E d (first ++ args ++ caps) s (((T g).getD fun _ => none) ((frzs E s (first ++ args ++ caps)).getD [])) := by
  obtain ⟨F, hF⟩ := Option.isSome_iff_exists.1 hT
  obtain ⟨p, hP⟩ := Option.isSome_iff_exists.1 hp
  rw [hP] at hq
  unfold callV
  simp only [hg, if_true, hi, List.contains_nil, Bool.false_eq_true, if_false, hC, hP, hF, withT, Option.getD_some]
  simp only [Option.getD_some] at hq
  rw [if_pos ⟨trivial, trivial, hq⟩]
  cases hFp : F p with
  | none => rfl
  | some o =>
    cases o with
    | ret v => simp only [Option.map_some, CT, CR, CD]
    | pan v => simp only [Option.map_some, CT]
theorem vmt : (type_of% @tm_E) ∧ (type_of% @tm_C) ∧ (type_of% @tm_fuel) ∧ (type_of% @tm_call) ∧ (type_of% @callV_t) ∧ (type_of% @CT_ret) ∧ (type_of% @CT_pan) ∧ (type_of% @tabT_cons) ∧ (type_of% @tabT_nil) :=
  ⟨@tm_E, @tm_C, @tm_fuel, @tm_call, @callV_t, @CT_ret, @CT_pan, @tabT_cons, @tabT_nil⟩
open Classical in
noncomputable def hO {α : Type} (enc : α → List V) (ok : α → Prop) (out : α → COut) : List V → Option COut :=
  fun args => if h : ∃ a, cans args = enc a ∧ ok a then some (out h.choose) else none
theorem Str_inj {a b : List UInt8} (h : V.str a = V.str b) : a = b := by injection h
theorem canStr (s : List UInt8) : can (.str s) = .str s := rfl
end Go.Vi
