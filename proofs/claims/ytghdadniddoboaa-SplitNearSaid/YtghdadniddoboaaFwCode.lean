/- Operations with calls, regions in the text's order, and regions that draw their order. -/
import Derived.Test.YtghdadniddoboaaFwRun
namespace Go.Sy
variable {P : Program}

def nthF : List Func → Nat → Option Func
  | [], _ => none
  | f :: _, 0 => some f
  | _ :: l, n + 1 => nthF l n
theorem nthF_eq : ∀ (l : List Func) (n : Nat), nthF l n = l[n]?
  | [], _ => rfl
  | _ :: _, 0 => rfl
  | _ :: l, n + 1 => by rw [nthF, nthF_eq l n]; rfl
/-- The function that answers the pointer that it is given. -/
def extQ (P : Program) (id : Nat) : Bool := match nthF P.funcs.toList id with
  | some fn => match fn.body with
    | some _ => false
    | none => match decide (fn.name = "internal/abi.NoEscape") with
      | true => decide (fn.origin = "")
      | false => false
  | none => false
theorem ext_next : Extern.allNextRows.lookup "internal/abi.NoEscape" = none := by kernel_rfl
theorem ext_next0 : Extern.allNextRows.lookup "" = none := by kernel_rfl
theorem ext_gen : Extern.allGenericRows.lookup "internal/abi.NoEscape" = none := by kernel_rfl
theorem ext_typed : Extern.allTypedRows.lookup "internal/abi.NoEscape" = none := by kernel_rfl
theorem ext_rows : Extern.allRows.lookup "internal/abi.NoEscape" = some Extern.AbiNoEscape.same := by kernel_rfl
theorem extQ_run {id : Nat} (e : extQ P id = true) (v : Value) (w : World) : (callFunc id #[v]).run P w = .ok (.value v) w := by
  unfold extQ at e
  split at e
  · rename_i fn hf
    rw [nthF_eq] at hf
    have hf' : P.funcs[id]? = some fn := by simpa using hf
    split at e
    · cases e
    · rename_i hb
      split at e
      · rename_i hn
        have hn := of_decide_eq_true hn
        have ho := of_decide_eq_true e
        have h1 : Extern.findNext fn = none := by
          unfold Extern.findNext
          simp only [hn, ho, ext_next, ext_next0]
          rfl
        have h2 : Extern.find fn = some Extern.AbiNoEscape.same := by
          unfold Extern.find
          simp only [hn, ext_gen, ext_typed, ext_rows]
          rfl
        have hp : (program : Sem Program).run P w = .ok P w := rfl
        have hs : (fn.name == "runtime.NumGoroutine") = false := by rw [hn]; decide
        have hm : ∀ m, (mark m).run P w = .ok () w := fun _ => rfl
        unfold callFunc
        simp only [Sem.run_bind, hp, Result.andThen_ok, hf', hs, hb, Option.isNone_none, if_true, Bool.false_eq_true, if_false, hm, h1, h2]
        rfl
      · cases e
  · cases e
def callV (P : Program) (t : List Value) (c : Call) (ty : TypeId) (h : Heap) (J : Value → Heap → Prop) : Prop := match c.callee with
  | .value f => match evO t f with
    | .func (.func id) first captured => match extQ P id with
      | false => CallA P id (first.toList ++ (mapO t c.args.toList ++ captured.toList)) h fun v h' => exRes P ty fun u => v = u ∧ J u h'
      | true => match first.toList ++ (mapO t c.args.toList ++ captured.toList) with
        | [v] => J v h
        | _ => False
    | _ => False
  | _ => False
def isCallV : Op → Option Call
  | .call c => match c.callee with
    | .builtin _ => none
    | _ => some c
  | _ => none
def opA (P : Program) (t : List Value) (o : Oper) (h : Heap) (J : Value → Heap → Prop) : Prop := match isCallV o.op with
  | some c => callV P t c o.type h J
  | none => opV P t o.op h J

/-- What an operation comes to, whatever the model makes of it. -/
def resOK (P : Program) (r : Result Next) (h : Heap) (w : World) (K : Value → Heap → Prop) : Prop := match r with
  | .ok (.value v) w' => ∃ h', K v h' ∧ Rep h' w' ∧ Fr h w h' w'
  | .ok .skip w' => ∃ h', K undef h' ∧ Rep h' w' ∧ Fr h w h' w'
  | .ok (.enter f args) w' => Calls P f args w' fun e w'' => ∃ v h', e = .returned v ∧ K v h' ∧ Rep h' w'' ∧ Fr h w h' w''
  | _ => False
def SOp (P : Program) (ρ : Operand → Value) (o : Oper) (h : Heap) (K : Value → Heap → Prop) : Prop := ∀ w, Rep h w → resOK P ((execOp ρ o).run P w) h w K
theorem resOK_mono {r : Result Next} {h : Heap} {w : World} {K K' : Value → Heap → Prop} (m : ∀ v h', K v h' → K' v h') (k : resOK P r h w K) : resOK P r h w K' := by
  unfold resOK at *
  split at k
  · obtain ⟨h', a, b⟩ := k; exact ⟨h', m _ _ a, b⟩
  · obtain ⟨h', a, b⟩ := k; exact ⟨h', m _ _ a, b⟩
  · exact k.mono fun e w'' ⟨v, h', e1, a, b⟩ => ⟨v, h', e1, m _ _ a, b⟩
  · exact k.elim
theorem SOp.mono {ρ : Operand → Value} {o : Oper} {h : Heap} {K K' : Value → Heap → Prop} (k : SOp P ρ o h K) (m : ∀ v h', K v h' → K' v h') : SOp P ρ o h K' :=
  fun w r => resOK_mono m (k w r)
theorem opA_SOp {t : List Value} {o : Oper} {h : Heap} {J : Value → Heap → Prop} (k : opA P t o h J) : SOp P (evO t) o h J := by
  intro w r
  unfold opA at k
  split at k
  · rename_i c hc
    have ho : o.op = .call c := by
      cases e : o.op <;> rw [e] at hc <;> simp only [isCallV] at hc <;> try (cases hc; done)
      split at hc
      · cases hc
      · cases hc; rfl
    unfold callV at k
    split at k
    · rename_i f hf
      split at k
      · rename_i id first captured hv
        have e1 : (first ++ c.args.map (evO t)) ++ captured = (first.toList ++ (mapO t c.args.toList ++ captured.toList)).toArray := by
          apply Array.toList_inj.1
          rw [mapO_eq]
          simp
        have e2 : (execOp (evO t) o).run P w = (callFunc id (first.toList ++ (mapO t c.args.toList ++ captured.toList)).toArray).run P w := by
          rw [← e1]
          unfold execOp
          simp only [ho, resolve, hf, hv, Deferred.ofValue, Sem.run_bind, Sem.run_pure, Result.andThen_ok, invoke]
        rw [e2]
        split at k
        · rw [(k w r).1]
          exact (k w r).2.mono fun e w'' ⟨v, h', e3, q, x⟩ => by
            obtain ⟨u, rfl, j⟩ := exRes_elim q
            exact ⟨v, h', e3, j, x⟩
        · rename_i hq
          split at k
          · rename_i v hl
            rw [hl, extQ_run hq v w]
            exact ⟨h, k, r, Fr.refl h w⟩
          · exact k.elim
      · exact k.elim
    · exact k.elim
  · obtain ⟨n, h', w', e, q, r', f⟩ := opV_sound k w r
    rw [e]
    cases n <;> first | exact ⟨h', q, r', f⟩ | exact ⟨h', q.2, r', f⟩ | exact q.elim
theorem SOp.wp {t : List Value} {o : Oper} {h : Heap} {K : Value → Heap → Prop} (k : SOp P (evO t) o h K) {w : World} (r : Rep h w) {next : Act → World → Prop} {Q : Exit → Act → World → Prop}
    (n : ∀ v h' w', K v h' → Rep h' w' → Fr h w h' w' → next ⟨(putT t o.dst v).toArray, []⟩ w') : o.wp P ⟨t.toArray, []⟩ w next Q := by
  have he : (Act.mk t.toArray []).eval = evO t := funext (evO_eq t)
  have k1 := k w r
  unfold Oper.wp
  rw [he]
  unfold resOK at k1
  generalize (execOp (evO t) o).run P w = res at k1 ⊢
  split at k1
  · obtain ⟨h', a, b, c⟩ := k1
    rw [Oper.upon_value, putT_eq]; exact n _ _ _ a b c
  · obtain ⟨h', a, b, c⟩ := k1
    rw [Oper.upon_skip, putT_eq]; exact n _ _ _ a b c
  · rw [Oper.upon_enter]
    refine k1.mono fun e w'' ⟨v, h', e1, a, b, c⟩ => ?_
    subst e1
    dsimp only
    rw [putT_eq]; exact n _ _ _ a b c
  · exact k1.elim

/-! ### guards -/
def dstOf (all : List Oper) (j : Nat) : Option Nat := match all[j]? with
  | some o => o.dst
  | none => none
def yieldT (all : List Oper) (t : List Value) (j : Nat) : Option Bool := match dstOf all j with
  | some d => match getT t d with
    | .bool b => some b
    | _ => none
  | none => none
def wantT (all : List Oper) (t : List Value) (o : Oper) : Bool := match o.guard with
  | none => true
  | some (j, want) => yieldT all t j == some want
theorem getT_get? : ∀ (t : List Value) (d : Nat) (v : Value), t[d]? = some v → getT t d = v
  | [], _, _, h => by simp at h
  | _ :: _, 0, _, h => by simpa [getT] using h
  | _ :: t, d + 1, v, h => getT_get? t d v (by simpa using h)
theorem getT_none : ∀ (t : List Value) (d : Nat), t[d]? = none → getT t d = undef
  | [], _, _ => rfl
  | _ :: _, 0, h => by simp at h
  | _ :: t, d + 1, h => getT_none t d (by simpa using h)
theorem yielded_eq (ops : Array Oper) (t : List Value) (j : Nat) : yielded ops t.toArray j = yieldT ops.toList t j := by
  unfold yielded yieldT dstOf
  have e : ops[j]? = ops.toList[j]? := by simp
  rw [e]
  cases ho : ops.toList[j]? with
  | none => rfl
  | some o =>
    simp only [Option.bind_some]
    cases o.dst with
    | none => rfl
    | some d =>
      simp only [Option.bind_some]
      have e2 : t.toArray[d]? = t[d]? := by simp
      rw [e2]
      cases hv : t[d]? with
      | none => rw [getT_none t d hv]; rfl
      | some v => rw [getT_get? t d v hv]; cases v <;> rfl
theorem wanted_eq (ops : Array Oper) (t : List Value) (o : Oper) : Region.wanted o (yielded ops t.toArray) = wantT ops.toList t o := by
  unfold Region.wanted wantT
  cases o.guard with
  | none => rfl
  | some g => obtain ⟨j, want⟩ := g; simp only [yielded_eq]
theorem setT_same : ∀ (t : List Value) (d : Nat), setT t d (getT t d) = t
  | [], _ => rfl
  | _ :: _, 0 => rfl
  | u :: t, d + 1 => by simp only [setT, getT, setT_same t d]

/-- An operation under its guard: what is done, and what isn't. -/
def guarded (all : List Oper) (o : Oper) (t : List Value) (yes no : List Value → Prop) : Prop := match o.guard with
  | none => yes t
  | some (j, want) => match dstOf all j with
    | none => no t
    | some d => match getT t d with
      | .bool b => Br b
          (match want with
            | true => yes (setT t d (.bool true))
            | false => no (setT t d (.bool true)))
          (match want with
            | true => no (setT t d (.bool false))
            | false => yes (setT t d (.bool false)))
      | _ => no t
theorem guarded_elim {all : List Oper} {o : Oper} {t : List Value} {yes no : List Value → Prop} (k : guarded all o t yes no) :
    (wantT all t o = true ∧ yes t) ∨ (wantT all t o = false ∧ no t) := by
  unfold guarded at k
  unfold wantT
  split at k
  · exact .inl ⟨rfl, k⟩
  · rename_i j want hg
    unfold yieldT
    split at k
    · rename_i hd
      rw [hd]
      exact .inr ⟨rfl, k⟩
    · rename_i d hd
      rw [hd]
      dsimp only
      split at k
      · rename_i b hv
        have hs : setT t d (.bool b) = t := by rw [← hv]; exact setT_same t d
        rcases k.elim with ⟨rfl, k⟩ | ⟨rfl, k⟩
        · rw [hs] at k
          cases want
          · exact .inr ⟨rfl, k⟩
          · exact .inl ⟨rfl, k⟩
        · rw [hs] at k
          cases want
          · exact .inl ⟨rfl, k⟩
          · exact .inr ⟨rfl, k⟩
      · exact .inr ⟨rfl, k⟩

/-! ### a region in the text's order -/
def opsA (P : Program) (all : List Oper) : List Oper → List Value → Heap → (List Value → Heap → Prop) → Prop
  | [], t, h, J => J t h
  | o :: os, t, h, J => guarded all o t
      (fun t => opA P t o h fun v h' => opsA P all os (putT t o.dst v) h' J)
      (fun t => opsA P all os (putT t o.dst undef) h J)
/-- Where a region ends. -/
def endsIn (J : List Value → Heap → Prop) (h0 : Heap) (w0 : World) (e : Exit) (a : Act) (w : World) : Prop :=
  e = .normal ∧ ∃ t h, a = ⟨t.toArray, []⟩ ∧ J t h ∧ Rep h w ∧ Fr h0 w0 h w
theorem opsA_sound (ops : Array Oper) (J : List Value → Heap → Prop) (h0 : Heap) (w0 : World) : ∀ (os : List Oper) (k : Nat) (t : List Value) (h : Heap) (w : World),
    ops.toList.drop k = os → opsA P ops.toList os t h J → Rep h w → Fr h0 w0 h w → wpOps P ops (endsIn J h0 w0) (List.range' k os.length) ⟨t.toArray, []⟩ w
  | [], k, t, h, w, _, q, r, f => ⟨rfl, t, h, rfl, q, r, f⟩
  | o :: os, k, t, h, w, hd, q, r, f => by
    have ho : ops[k]? = some o := by
      have : ops.toList[k]? = some o := by
        have := congrArg (·[0]?) hd
        simpa using this
      simpa using this
    have hd' : ops.toList.drop (k + 1) = os := by
      have := congrArg (List.drop 1) hd
      simpa [List.drop_drop, Nat.add_comm] using this
    rw [List.length_cons, List.range'_succ]
    unfold wpOps
    simp only [ho]
    rw [wanted_eq]
    rcases guarded_elim q with ⟨hw, q⟩ | ⟨hw, q⟩
    · rw [hw]
      refine .inl ((opA_SOp q).wp r fun v h' w' q' r' f' => ?_)
      exact opsA_sound ops J h0 w0 os (k + 1) _ h' w' hd' q' r' (f.trans f')
    · rw [hw]
      simp only [Bool.false_eq_true, if_false, putT_eq]
      exact opsA_sound ops J h0 w0 os (k + 1) _ h w hd' q r f

/-! ### the same, with what has been found laid down at once (for the kernel's sake) -/
def fcL : List Value → (List Value → Prop) → Prop
  | [], J => J []
  | v :: r, J => fcL r fun r' => J (v :: r')
theorem fcL_eq : ∀ (l : List Value) (J : List Value → Prop), fcL l J = J l
  | [], _ => rfl
  | v :: r, J => by unfold fcL; rw [fcL_eq r]
def fcV (v : Value) (J : Value → Prop) : Prop := match v with
  | .int k n => J (.int k n)
  | .bool b => J (.bool b)
  | .string s => J (.string s)
  | .pointer a => J (.pointer a)
  | .slice a n c => J (.slice a n c)
  | .agg ⟨l⟩ => fcL l fun l => J (.agg ⟨l⟩)
  | .tuple ⟨l⟩ => fcL l fun l => J (.tuple ⟨l⟩)
  | v => J v
theorem fcV_eq (v : Value) (J : Value → Prop) : fcV v J = J v := by
  unfold fcV
  split <;> first | rfl | exact fcL_eq _ _
def fcN (n : Nat) (J : Nat → Prop) : Prop := match n with
  | 0 => J 0
  | .succ m => J (.succ m)
theorem fcN_eq (n : Nat) (J : Nat → Prop) : fcN n J = J n := by cases n <;> rfl
def fcP (t : List Value) (d : Option Nat) (v : Value) (J : List Value → Prop) : Prop := match d with
  | none => J t
  | some d => fcV v fun v => fcL (setT t d v) J
theorem fcP_eq (t : List Value) (d : Option Nat) (v : Value) (J : List Value → Prop) : fcP t d v J = J (putT t d v) := by
  cases d with
  | none => rfl
  | some d => simp only [fcP, fcV_eq, fcL_eq]; rfl
def guardF (all : List Oper) (o : Oper) (t : List Value) (yes no : List Value → Prop) : Prop := match o.guard with
  | none => yes t
  | some (j, want) => match dstOf all j with
    | none => no t
    | some d => match getT t d with
      | .bool b => Br b
          (fcL (setT t d (.bool true)) fun t => match want with
            | true => yes t
            | false => no t)
          (fcL (setT t d (.bool false)) fun t => match want with
            | true => no t
            | false => yes t)
      | _ => no t
theorem guardF_eq (all : List Oper) (o : Oper) (t : List Value) (yes no : List Value → Prop) : guardF all o t yes no = guarded all o t yes no := by
  unfold guardF guarded
  simp only [fcL_eq]
def opsF (P : Program) (all : List Oper) : List Oper → List Value → Heap → (List Value → Heap → Prop) → Prop
  | [], t, h, J => J t h
  | o :: os, t, h, J => guardF all o t
      (fun t => opA P t o h fun v h' => fcP t o.dst v fun t' => opsF P all os t' h' J)
      (fun t => fcP t o.dst undef fun t' => opsF P all os t' h J)
theorem opsF_eq (P : Program) (all : List Oper) : ∀ (os : List Oper) (t : List Value) (h : Heap) (J : List Value → Heap → Prop), opsF P all os t h J = opsA P all os t h J
  | [], _, _, _ => rfl
  | o :: os, t, h, J => by unfold opsF opsA; simp only [guardF_eq, fcP_eq, opsF_eq P all os]
end Go.Sy
