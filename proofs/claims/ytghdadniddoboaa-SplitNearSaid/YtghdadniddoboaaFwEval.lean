/- Whole functions, evaluated over partial heaps; and that it is sound. -/
import Derived.Test.YtghdadniddoboaaFwDraw
namespace Go.Sy
variable {P : Program}

/-! ### what is still looked at -/
def maskL : List Nat → Nat
  | [] => 0
  | d :: ds => 2 ^ d ||| maskL ds
def unB (m : Nat) (d : Option Nat) : Nat := match d with
  | some d => m ^^^ (m &&& 2 ^ d)
  | none => m
def liveOps (all : List Oper) (nx : Nat) : List Oper → Nat
  | [] => nx
  | o :: os => unB (liveOps all nx os) o.dst ||| (maskL (looksL o) ||| maskL (guardL all o))
def opMask : Operand → Nat
  | .tmp t => 2 ^ t
  | _ => 0
def look2 (ex : List (Nat × Nat)) (id : Nat) : Nat := match ex with
  | [] => 0
  | (i, m) :: r => match Nat.beq i id with
    | true => m
    | false => look2 r id
def liveC (ex : List (Nat × Nat)) (rt : Nat) : Code → Nat → Nat
  | .skip, nx => nx
  | .label _, nx => nx
  | .region _ ops _, nx => liveOps ops.toList nx ops.toList
  | .seq a b, nx => liveC ex rt a (liveC ex rt b nx)
  | .cond c a b, nx => opMask c ||| (liveC ex rt a nx ||| liveC ex rt b nx)
  | .block id b, nx => liveC ((id, nx) :: ex) rt b nx
  | .loop b, _ => liveC ex rt b 0
  | .exit id, _ => look2 ex id
  | .scope b, nx => liveC ex rt b nx
  | .ret, _ => rt
  | .rangeFunc f _ _ b, nx => opMask f ||| (liveC ex rt b nx ||| nx)
  | _, _ => 0
def liveT (rt : Nat) : List Item → Nat × List (Nat × Nat)
  | [] => (rt, [])
  | it :: k => match liveT rt k with
    | (m, ex) => match it with
      | .code c => (liveC ex rt c m, ex)
      | .inBlock id => (m, (id, m) :: ex)
      | .inLoop b => (liveC ex rt b 0, ex)
      | _ => (m, ex)
def resMask : List ResultVar → Nat
  | [] => 0
  | .tmp t :: r => 2 ^ t ||| resMask r
  | .cell t _ :: r => 2 ^ t ||| resMask r
def liveTodo (fn : Func) (todo : List Item) : Nat := (liveT (resMask fn.results.toList) todo).1
def cleanL (m i : Nat) : List Value → List Value
  | [] => []
  | v :: t => (match m.testBit i with | true => v | false => undef) :: cleanL m (i + 1) t
def fillJ (m : Nat) (junk : Nat → Value) (i : Nat) : List Value → List Value
  | [] => []
  | v :: t => (match m.testBit i with | true => v | false => junk i) :: fillJ m junk (i + 1) t
theorem fill_clean (m : Nat) (junk : Nat → Value) : ∀ (t : List Value) (i : Nat), (∀ j, junk (i + j) = getT t j) → fillJ m junk i (cleanL m i t) = t
  | [], _, _ => rfl
  | v :: t, i, h => by
    have h0 := h 0
    have hr := fill_clean m junk t (i + 1) (fun j => by rw [show i + 1 + j = i + (j + 1) from by omega]; exact h (j + 1))
    simp only [cleanL, fillJ, hr]
    cases m.testBit i
    · simp only [Nat.add_zero] at h0; rw [h0]; rfl
    · rfl

/-- The rest of a call, at the head of a loop: whatever lies in the slots that nobody looks at. -/
def LoopAt (P : Program) (fn : Func) (fid : Nat) (todo : List Item) (t : List Value) (h : Heap) (K : Value → Heap → Prop) : Prop := match todo with
  | .inLoop b :: r => ∀ junk : Nat → Value, Run P fid (.code b :: .inLoop b :: r) (fillJ (liveTodo fn (.inLoop b :: r)) junk 0 t) h K
  | _ => False
theorem LoopAt.mono {fn : Func} {fid : Nat} {todo : List Item} {t : List Value} {h : Heap} {K K' : Value → Heap → Prop} (c : LoopAt P fn fid todo t h K) (m : ∀ v h', K v h' → K' v h') :
    LoopAt P fn fid todo t h K' := by
  unfold LoopAt at *
  split at c
  · exact fun j => (c j).mono m
  · exact c.elim
theorem LoopAt.drop {fn : Func} {fid : Nat} {todo : List Item} {t : List Value} {h h0 : Heap} {K : Value → Heap → Prop} (c : LoopAt P fn fid todo t h0 K) (l : h0.le h) :
    LoopAt P fn fid todo t h K := by
  unfold LoopAt at *
  split at c
  · exact fun j => (c j).drop l
  · exact c.elim

/-! ### results -/
def resV (P : Program) (t : List Value) (h : Heap) : List ResultVar → (List Value → Prop) → Prop
  | [], K => K []
  | .tmp i :: rs, K => resV P t h rs fun vs => K (getT t i :: vs)
  | .cell a ty :: rs, K => match getT t a with
    | .pointer ad => withAddr ad fun b o => ldTy P ty h b o fun v => resV P t h rs fun vs => K (v :: vs)
    | _ => False
def resOf (vs : List Value) : Value := match vs with
  | [v] => v
  | vs => .tuple vs.toArray
/-- An answer: less may be known than is. -/
def Ret (h : Heap) (K : Value → Heap → Prop) (v : Value) : Prop := ∃ h0, Heap.le h0 h ∧ K v h0
theorem Ret.mk {h : Heap} {K : Value → Heap → Prop} {v : Value} (k : K v h) : Ret h K v := ⟨h, h.le_refl, k⟩
def retA (P : Program) (fn : Func) (t : List Value) (h : Heap) (K : Value → Heap → Prop) : Prop := resV P t h fn.results.toList fun vs => Ret h K (resOf vs)
def resSem (tmps : Array Value) : ResultVar → Sem Value
  | .tmp t => pure (tmps.getD t undef)
  | .cell a t => do loadVar t (← asAddr (tmps.getD a undef))
theorem resV_sound {t : List Value} {h : Heap} : ∀ {rs : List ResultVar} {K : List Value → Prop}, resV P t h rs K →
    ∃ vs, (∀ w, Rep h w → (rs.mapM (resSem t.toArray)).run P w = .ok vs w) ∧ K vs
  | [], K, k => ⟨[], fun w _ => rfl, k⟩
  | .tmp i :: rs, K, k => by
    have k1 : resV P t h rs (fun vs => K (getT t i :: vs)) := k
    obtain ⟨vs, e, q⟩ := resV_sound k1
    refine ⟨_, fun w r => ?_, q⟩
    rw [List.mapM_cons]
    simp only [resSem, Sem.run_bind, Sem.run_pure, Result.andThen_ok, e w r, getT_eq]
  | .cell a ty :: rs, K, k => by
    unfold resV at k
    split at k
    · rename_i ad hv
      obtain ⟨b, o, rfl, k1⟩ := withAddr_elim k
      obtain ⟨v, e1, _, k2⟩ := swq_sound _ _ _ (ldTy_sound (q := true) k1)
      obtain ⟨vs, e, q⟩ := resV_sound k2
      refine ⟨_, fun w r => ?_, q⟩
      rw [List.mapM_cons]
      simp only [resSem, Sem.run_bind, Sem.run_pure, Result.andThen_ok, e w r, getT_eq, hv, asAddr, e1 w r]
    · exact k.elim
theorem results_eq (fn : Func) (tmps : Array Value) : results fn tmps = (do
    let vs ← fn.results.mapM (resSem tmps)
    pure (if h : vs.size = 1 then vs[0] else .tuple vs)) := by
  unfold results
  rfl
theorem resOf_eq (vs : List Value) : (if h : vs.toArray.size = 1 then vs.toArray[0] else .tuple vs.toArray) = resOf vs := by
  match vs with
  | [] => rfl
  | [v] => rfl
  | a :: b :: r => rw [dif_neg (by simp)]; rfl
theorem retA_sound {fn : Func} {t : List Value} {h : Heap} {K : Value → Heap → Prop} (k : retA P fn t h K) : ∃ v h0, (∀ w, Rep h w → (results fn t.toArray).run P w = .ok v w) ∧ h0.le h ∧ K v h0 := by
  obtain ⟨vs, e, h0, hl, q⟩ := resV_sound k
  refine ⟨resOf vs, h0, fun w r => ?_, hl, q⟩
  rw [results_eq, Array.mapM_eq_mapM_toList, Sem.run_bind, Sem.run_map, e w r]
  simp only [Result.andThen_ok, Sem.run_pure]
  rw [resOf_eq]

/-! ### the rest of a call, step by step -/
section
variable {fid : Nat} {t : List Value} {h : Heap} {K : Value → Heap → Prop}
theorem Run.step {todo todo' : List Item} (s : ∀ cs w, step P (lone ((fbase fid).at ⟨t.toArray, []⟩ todo) cs w) = .next (lone ((fbase fid).at ⟨t.toArray, []⟩ todo') cs w))
    (k : Run P fid todo' t h K) : Run P fid todo t h K := fun w cs r =>
  let ⟨v, h', w', fr, kk, r', f', st, x⟩ := k w cs r
  ⟨v, h', w', fr, kk, r', f', .head (s cs w) st, x⟩
theorem Run.of_ret {fn : Func} (hf : P.funcs[fid]? = some fn) (k : retA P fn t h K) (todo : List Item) (ht : todo = [] ∨ ∃ r, todo = .code .ret :: r) : Run P fid todo t h K := by
  obtain ⟨v, h0, e, hl, q⟩ := retA_sound k
  intro w cs r
  refine ⟨v, h0, w, { (fbase fid).at ⟨t.toArray, []⟩ todo with mode := .returning }, q, r.le hl, (Fr.refl h w).less hl, ?_, rfl, rfl, rfl, rfl, fn, hf, e w r⟩
  rcases ht with rfl | ⟨r, rfl⟩
  · exact .one step_end
  · exact .one step_ret
theorem Run.of_wp {c : Code} {k : List Item} {J : List Value → Heap → Prop} (x : ∀ w, Rep h w → c.wp P (endsIn J h w) ⟨t.toArray, []⟩ w) (kk : ∀ t' h', J t' h' → Run P fid k t' h' K) :
    Run P fid (.code c :: k) t h K := by
  intro w cs r
  obtain ⟨e, a', w', ⟨rfl, t', h', rfl, j, r', f'⟩, harr⟩ := x w r (fbase fid) k cs
  obtain ⟨v, h2, w2, fr, q, r2, f2, st, x2⟩ := kk t' h' j w' cs r'
  exact ⟨v, h2, w2, fr, q, r2, f'.trans f2, Steps.trans harr st, x2⟩
end

/-- The rest of a call, at some place of its text: whatever lies in the slots that nobody looks at. -/
def CutAt (P : Program) (fn : Func) (fid : Nat) (todo : List Item) (t : List Value) (h : Heap) (K : Value → Heap → Prop) : Prop := ∀ junk : Nat → Value, Run P fid todo (fillJ (liveTodo fn todo) junk 0 t) h K
theorem CutAt.mono {fn : Func} {fid : Nat} {todo : List Item} {t : List Value} {h : Heap} {K K' : Value → Heap → Prop} (c : CutAt P fn fid todo t h K) (m : ∀ v h', K v h' → K' v h') :
    CutAt P fn fid todo t h K' := fun j => (c j).mono m
theorem CutAt.run {fn : Func} {fid : Nat} {todo : List Item} {t : List Value} {h : Heap} {K : Value → Heap → Prop} (k : CutAt P fn fid todo (cleanL (liveTodo fn todo) 0 t) h K) : Run P fid todo t h K := by
  have := k (fun i => getT t i)
  rw [fill_clean _ _ _ _ (fun j => by rw [Nat.zero_add])] at this
  exact this
def memC : List Nat → Nat → Bool
  | [], _ => false
  | x :: xs, n => match Nat.beq x n with
    | true => true
    | false => memC xs n
/-- The evaluation: loops and calls are left standing; and the places that are named. -/
def evK (P : Program) (fn : Func) (fid : Nat) (K : Value → Heap → Prop) (cs : List Nat) : Nat → List Item → List Value → Heap → Prop
  | 0, _, _, _ => False
  | n + 1, todo, t, h => match todo with
    | [] => retA P fn t h K
    | it :: k => match it with
      | .code c => match c with
        | .skip => evK P fn fid K cs n k t h
        | .label _ => evK P fn fid K cs n k t h
        | .seq a b => evK P fn fid K cs n (.code a :: .code b :: k) t h
        | .cond c x y => match evO t c with
          | .bool b => Br b (evK P fn fid K cs n (.code x :: k) t h) (evK P fn fid K cs n (.code y :: k) t h)
          | _ => False
        | .block id b => evK P fn fid K cs n (.code b :: .inBlock id :: k) t h
        | .scope b => evK P fn fid K cs n (.code b :: .inScope b :: k) t h
        | .loop b => LoopAt P fn fid (.inLoop b :: k) (cleanL (liveTodo fn (.inLoop b :: k)) 0 t) h K
        | .exit id => match exitTo id k with
          | some k' => evK P fn fid K cs n k' t h
          | none => False
        | .ret => retA P fn t h K
        | .region id ops draw => match memC cs id with
          | true => CutAt P fn fid (.code (.region id ops draw) :: k) (cleanL (liveTodo fn (.code (.region id ops draw) :: k)) 0 t) h K
          | false => match draw with
            | false => opsF P ops.toList ops.toList t h fun t' h' => evK P fn fid K cs n k t' h'
            | true => drawF P ops.toList (fun t' h' => evK P fn fid K cs n k t' h') ops.size 0 t h
        | _ => False
      | .inBlock _ => evK P fn fid K cs n k t h
      | .inScope _ => evK P fn fid K cs n k t h
      | .inLoop b => LoopAt P fn fid (.inLoop b :: k) (cleanL (liveTodo fn (.inLoop b :: k)) 0 t) h K
      | _ => False
theorem LoopAt.run {fn : Func} {fid : Nat} {b : Code} {r : List Item} {t : List Value} {h : Heap} {K : Value → Heap → Prop} (k : LoopAt P fn fid (.inLoop b :: r) (cleanL (liveTodo fn (.inLoop b :: r)) 0 t) h K) :
    Run P fid (.code b :: .inLoop b :: r) t h K := by
  have := k (fun i => getT t i)
  rw [fill_clean _ _ _ _ (fun j => by rw [Nat.zero_add])] at this
  exact this
theorem region_run {fid : Nat} {K : Value → Heap → Prop} (hm : P.follows .mixedOrders = true) {id : Nat} {ops : Array Oper} {draw : Bool} {r : List Item} {t : List Value} {h : Heap} {J : List Value → Heap → Prop}
    (k : match draw with
      | false => opsF P ops.toList ops.toList t h J
      | true => drawF P ops.toList J ops.size 0 t h) (kk : ∀ t' h', J t' h' → Run P fid r t' h' K) : Run P fid (.code (.region id ops draw) :: r) t h K := by
  split at k
  · rw [opsF_eq] at k
    refine Run.of_wp (J := J) (fun w rw => wp_region ?_) kk
    have := opsA_sound ops _ h w ops.toList 0 t h w (by simp) k rw (Fr.refl h w)
    rw [List.range_eq_range']
    simpa using this
  · rw [drawF_eq] at k
    refine Run.of_wp (J := J) (fun w rw => wp_region_any hm ?_) kk
    refine AnyA_sound ops _ h w ops.size 0 _ t h { w with drawn := w.drawn + 1 } ⟨by simp, fun j hj => by simp [hj]⟩ (fun j _ => by simp) (drawA_sound _ _ _ _ (fun k o _ hl => by simp at hl) k) rw ⟨rfl, rfl, rfl, Nat.le_refl _, fun _ _ _ => rfl, fun _ _ e => e⟩
theorem evK_sound {fn : Func} {fid : Nat} {K : Value → Heap → Prop} {cs : List Nat} (hf : P.funcs[fid]? = some fn) (hm : P.follows .mixedOrders = true) : ∀ (n : Nat) (todo : List Item) (t : List Value) (h : Heap),
    evK P fn fid K cs n todo t h → Run P fid todo t h K
  | 0, _, _, _, k => k.elim
  | n + 1, todo, t, h, k => by
    unfold evK at k
    split at k
    · exact Run.of_ret hf k [] (.inl rfl)
    · rename_i it r
      split at k
      · rename_i c
        split at k
        · exact Run.step (fun _ _ => step_skip) (evK_sound hf hm n _ _ _ k)
        · exact Run.step (fun _ _ => step_label) (evK_sound hf hm n _ _ _ k)
        · exact Run.step (fun _ _ => step_seq) (evK_sound hf hm n _ _ _ k)
        · rename_i c x y
          split at k
          · rename_i b hb
            rcases k.elim with ⟨rfl, k⟩ | ⟨rfl, k⟩
            · exact Run.step (fun _ _ => step_cond (t := true) (by rw [evO_eq]; exact hb)) (evK_sound hf hm n _ _ _ k)
            · exact Run.step (fun _ _ => step_cond (t := false) (by rw [evO_eq]; exact hb)) (evK_sound hf hm n _ _ _ k)
          · exact k.elim
        · exact Run.step (fun _ _ => step_block) (evK_sound hf hm n _ _ _ k)
        · refine Run.step (fun _ _ => step_lone_go ?_) (evK_sound hf hm n _ _ _ k)
          simp [stepG, stepG.exec, Frame.at, fbase]
        · exact Run.step (fun _ _ => step_loop) (LoopAt.run k)
        · rename_i id
          split at k
          · rename_i k' hk
            exact Run.step (fun _ _ => step_exit hk) (evK_sound hf hm n _ _ _ k)
          · exact k.elim
        · exact Run.of_ret hf k _ (.inr ⟨r, rfl⟩)
        · rename_i id ops draw
          split at k
          · exact CutAt.run k
          split at k
          · rw [opsF_eq] at k
            refine Run.of_wp (J := fun t' h' => evK P fn fid K cs n r t' h') (fun w rw => wp_region ?_) (fun t' h' => evK_sound hf hm n r t' h')
            have := opsA_sound ops _ h w ops.toList 0 t h w (by simp) k rw (Fr.refl h w)
            rw [List.range_eq_range']
            simpa using this
          · rw [drawF_eq] at k
            refine Run.of_wp (J := fun t' h' => evK P fn fid K cs n r t' h') (fun w rw => wp_region_any hm ?_) (fun t' h' => evK_sound hf hm n r t' h')
            refine AnyA_sound ops _ h w ops.size 0 _ t h { w with drawn := w.drawn + 1 } ⟨by simp, fun j hj => by simp [hj]⟩ (fun j _ => by simp) (drawA_sound _ _ _ _ (fun k o _ hl => by simp at hl) k) rw ⟨rfl, rfl, rfl, Nat.le_refl _, fun _ _ _ => rfl, fun _ _ e => e⟩
        · exact k.elim
      · exact Run.step (fun _ _ => step_inBlock) (evK_sound hf hm n _ _ _ k)
      · refine Run.step (fun _ _ => step_lone_go ?_) (evK_sound hf hm n _ _ _ k)
        simp [stepG, stepG.exec, Frame.at, fbase]
      · exact Run.step (fun _ _ => step_inLoop) (LoopAt.run k)
      · exact k.elim

/-- The loops of a text, each with all that stands behind it. -/
def loopsC : Code → List Item → List (List Item)
  | .seq a b, k => loopsC a (.code b :: k) ++ loopsC b k
  | .cond _ x y, k => loopsC x k ++ loopsC y k
  | .block id b, k => loopsC b (.inBlock id :: k)
  | .scope b, k => loopsC b (.inScope b :: k)
  | .loop b, k => (.inLoop b :: k) :: loopsC b (.inLoop b :: k)
  | _, _ => []
def nthL : List (List Item) → Nat → List Item
  | [], _ => []
  | x :: _, 0 => x
  | _ :: xs, n + 1 => nthL xs n
def bodyOf (fn : Func) : Code := match fn.body with
  | some c => c
  | none => .skip
def loopK (fn : Func) (n : Nat) : List Item := nthL (loopsC (bodyOf fn) []) n
def undefs : Nat → List Value
  | 0 => []
  | n + 1 => undef :: undefs n
def padL (n : Nat) (args : List Value) : List Value := match n, args with
  | n, [] => undefs n
  | 0, l => l
  | n + 1, v :: l => v :: padL n l
/-- Slots, of which some are laid: the others hold nothing. -/
def sp (n : Nat) : List (Nat × Value) → List Value
  | [] => undefs n
  | (i, v) :: r => setT (sp n r) i v
/-- A whole call, evaluated. -/
def evF (P : Program) (fn : Func) (fid : Nat) (args : List Value) (h : Heap) (K : Value → Heap → Prop) (cs : List Nat := []) : Prop := evK P fn fid K cs 100000 [.code (bodyOf fn)] (padL fn.ntmps args) h
/-- A round of a loop, evaluated. -/
def evL (P : Program) (fn : Func) (fid : Nat) (todo : List Item) (t : List Value) (junk : Nat → Value) (h : Heap) (K : Value → Heap → Prop) (cs : List Nat := []) : Prop := match todo with
  | .inLoop b :: r => evK P fn fid K cs 100000 (.code b :: .inLoop b :: r) (fillJ (liveTodo fn (.inLoop b :: r)) junk 0 t) h
  | _ => False
/-- From a place that is named. -/
def evC (P : Program) (fn : Func) (fid : Nat) (todo : List Item) (t : List Value) (junk : Nat → Value) (h : Heap) (K : Value → Heap → Prop) (cs : List Nat := []) : Prop := match todo with
  | .code (.region _ ops draw) :: r => match draw with
    | false => opsF P ops.toList ops.toList (fillJ (liveTodo fn todo) junk 0 t) h fun t' h' => evK P fn fid K cs 100000 r t' h'
    | true => drawF P ops.toList (fun t' h' => evK P fn fid K cs 100000 r t' h') ops.size 0 (fillJ (liveTodo fn todo) junk 0 t) h
  | _ => False
/-- The places of a text, each with all that stands behind it. -/
def regsC (n : Nat) : Code → List Item → List (List Item)
  | .seq a b, k => regsC n a (.code b :: k) ++ regsC n b k
  | .cond _ x y, k => regsC n x k ++ regsC n y k
  | .block id b, k => regsC n b (.inBlock id :: k)
  | .scope b, k => regsC n b (.inScope b :: k)
  | .loop b, k => regsC n b (.inLoop b :: k)
  | .region id ops draw, k => match Nat.beq id n with
    | true => [.code (.region id ops draw) :: k]
    | false => []
  | _, _ => []
def cutK (fn : Func) (n : Nat) : List Item := nthL (regsC n (bodyOf fn) []) 0
theorem undefs_eq : ∀ n, undefs n = List.replicate n undef
  | 0 => rfl
  | n + 1 => by rw [undefs, undefs_eq n, List.replicate_succ]
theorem padL_eq : ∀ (n : Nat) (args : List Value), args.length ≤ n → padL n args = args ++ List.replicate (n - args.length) undef
  | n, [], _ => by unfold padL; simp [undefs_eq]
  | 0, v :: l, h => by simp at h
  | n + 1, v :: l, h => by
    unfold padL
    rw [padL_eq n l (by simpa using h)]
    simp
theorem CallA.of_ev {fn : Func} {fid : Nat} {args : List Value} {h : Heap} {K : Value → Heap → Prop} {cs : List Nat} (hf : P.funcs[fid]? = some fn) (hb : fn.body.isSome = true)
    (hc : ∀ (a : Array Value) (w : World), (callFunc fid a).run P w = .ok (.enter fid a) w) (hm : P.follows .mixedOrders = true) (hl : Nat.ble args.length fn.ntmps = true)
    {T : Prop} (e : T = evF P fn fid args h K cs) (k0 : T) : CallA P fid args h K := by
  have k : evF P fn fid args h K cs := e ▸ k0
  obtain ⟨c, hb⟩ := Option.isSome_iff_exists.1 hb
  refine CallA.of_run hf hb hc (evK_sound (cs := cs) hf hm 100000 _ _ _ ?_)
  have k' := k
  unfold evF bodyOf at k'
  rw [hb, padL_eq _ _ (Nat.le_of_ble_eq_true hl)] at k'
  exact k'
theorem LoopAt.of_ev {fn : Func} {fid : Nat} {todo : List Item} {t : List Value} {h : Heap} {K : Value → Heap → Prop} {cs : List Nat} (hf : P.funcs[fid]? = some fn) (hm : P.follows .mixedOrders = true)
    {T : Prop} (e : ∀ junk, T = evL P fn fid todo t junk h K cs) (k0 : T) : LoopAt P fn fid todo t h K := by
  have k : ∀ junk, evL P fn fid todo t junk h K cs := fun junk => e junk ▸ k0
  unfold LoopAt
  unfold evL at k
  split at k
  · exact fun junk => evK_sound hf hm 100000 _ _ _ (k junk)
  · exact k (fun _ => undef)
theorem CutAt.of_ev {fn : Func} {fid : Nat} {todo : List Item} {t : List Value} {h : Heap} {K : Value → Heap → Prop} {cs : List Nat} (hf : P.funcs[fid]? = some fn) (hm : P.follows .mixedOrders = true)
    {T : Prop} (e : ∀ junk, T = evC P fn fid todo t junk h K cs) (k0 : T) : CutAt P fn fid todo t h K := by
  have k : ∀ junk, evC P fn fid todo t junk h K cs := fun junk => e junk ▸ k0
  intro junk
  have k := k junk
  unfold evC at k
  split at k
  · exact region_run hm k (fun t' h' j => evK_sound hf hm 100000 _ _ _ j)
  · exact k.elim
end Go.Sy
