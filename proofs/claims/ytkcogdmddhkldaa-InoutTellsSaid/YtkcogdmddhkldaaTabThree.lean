/- Tables with another rate or haircut; what amounts are worth; whether a table is large; the law's first question. -/
import Derived.Test.YtkcogdmddhkldaaTabTwo

namespace Go.Proofs.Ytkcogdmddhkldaa
open Go Go.Sy Go.Value
set_option linter.unusedVariables false
set_option linter.unusedSimpArgs false

/-! plain laws -/
def withL (l : List Cur) (j : Nat) (x : Cur) : Option (List Cur) := if fitsB j x then some (l.set j x) else none
def wRate (l : List Cur) (cur r : Int) : Option (List Cur) := if 0 ≤ cur then (match l[cur.toNat]? with | some y => withL l cur.toNat ⟨y.code, r, y.cut⟩ | none => none) else none
def wCut (l : List Cur) (cur r : Int) : Option (List Cur) := if 0 ≤ cur then (match l[cur.toNat]? with | some y => withL l cur.toNat ⟨y.code, y.rate, r⟩ | none => none) else none
def rWith (l : List Cur) (cur r t : Int) : Option (List Cur) := if 0 ≤ cur then (match l[cur.toNat]? with | some y => (if tabE (l.set cur.toNat ⟨y.code, r, t⟩) = 0 then some (l.set cur.toNat ⟨y.code, r, t⟩) else none) | none => none) else none
theorem dup_map {pre pre' : List Cur} {x x' : Cur} (h : pre.map (·.code) = pre'.map (·.code)) (hx : x.code = x'.code) : dup pre x = dup pre' x' := by
  have e : ∀ (pre : List Cur) (x : Cur), dup pre x = (pre.map (·.code)).any fun c => sameC c x.code := fun pre x => by
    unfold dup; rw [List.any_map]; rfl
  rw [e, e, h, hx]
theorem uniq_map : ∀ (l l' pre pre' : List Cur), l.map (·.code) = l'.map (·.code) → pre.map (·.code) = pre'.map (·.code) → uniqB pre l = uniqB pre' l'
  | [], [], _, _, _, _ => rfl
  | [], _ :: _, _, _, h, _ => by simp at h
  | _ :: _, [], _, _, h, _ => by simp at h
  | x :: l, x' :: l', pre, pre', h, hp => by
    simp only [List.map_cons, List.cons.injEq] at h
    rw [uniqB, uniqB, dup_map hp h.1, uniq_map l l' (pre ++ [x]) (pre' ++ [x']) h.2 (by simp [hp, h.1])]
theorem fitsF_set : ∀ (l : List Cur) (i j : Nat) (x : Cur), fitsF i l = true → j < l.length → fitsF i (l.set j x) = fitsB ((i + j : Nat) : Int) x
  | [], _, _, _, _, h => by simp at h
  | y :: l, i, 0, x, hf, _ => by
    rw [fitsF_cons, Bool.and_eq_true] at hf
    rw [List.set_cons_zero, fitsF_cons, hf.2, Bool.and_true]
    rfl
  | y :: l, i, j + 1, x, hf, h => by
    rw [fitsF_cons, Bool.and_eq_true] at hf
    rw [List.set_cons_succ, fitsF_cons, hf.1, Bool.true_and, fitsF_set l (i + 1) j x hf.2 (by simpa using h)]
    congr 2
    omega
theorem tab_parts {l : List Cur} (h : tabE l = 0) : 1 ≤ l.length ∧ l.length ≤ 8 ∧ l.all (fun x => capB x.code) = true ∧ uniqB [] l = true ∧ fitsF 0 l = true := by
  unfold tabE at h
  split at h
  · cases h
  · split at h
    · split at h
      · split at h
        · refine ⟨by omega, by omega, by assumption, by assumption, by assumption⟩
        · cases h
      · cases h
    · cases h
theorem tab_set {l : List Cur} {j : Nat} {x y : Cur} (h : tabE l = 0) (hy : l[j]? = some y) (hc : x.code = y.code) : (tabE (l.set j x) = 0) ↔ (fitsB j x = true) := by
  obtain ⟨h1, h2, h3, h4, h5⟩ := tab_parts h
  have hj : j < l.length := (List.getElem?_eq_some_iff.1 hy).1
  have hm : (l.set j x).map (·.code) = l.map (·.code) := by
    rw [List.map_set, hc]
    refine List.ext_getElem? fun i => ?_
    by_cases e : i = j
    · subst e
      rw [List.getElem?_set_self (by simpa using hj), List.getElem?_map, hy]; rfl
    · rw [List.getElem?_set_ne (fun e2 => e e2.symm)]
  have a3 : (l.set j x).all (fun x => capB x.code) = true := by
    have e : ∀ l : List Cur, l.all (fun x => capB x.code) = (l.map (·.code)).all capB := fun l => by rw [List.all_map]; rfl
    rw [e, hm, ← e]; exact h3
  have a4 : uniqB [] (l.set j x) = true := by rw [uniq_map _ l [] [] hm rfl]; exact h4
  have a5 := fitsF_set l 0 j x h5 hj
  rw [Nat.zero_add] at a5
  unfold tabE
  rw [List.length_set, if_neg (by omega), if_pos a3, if_pos a4, a5]
  split
  · simp [*]
  · simp [*]
theorem rWith_rate {l : List Cur} (h : tabE l = 0) {cur r t : Int} (ht : ∀ y, 0 ≤ cur → l[cur.toNat]? = some y → t = y.cut) : rWith l cur r t = wRate l cur r := by
  unfold rWith wRate
  by_cases h0 : 0 ≤ cur
  · rw [if_pos h0, if_pos h0]
    cases hy : l[cur.toNat]? with
    | none => rfl
    | some y =>
      dsimp only
      rw [ht y h0 hy]
      unfold withL
      have := tab_set (x := ⟨y.code, r, y.cut⟩) h hy rfl
      by_cases hf : fitsB (cur.toNat : Int) ⟨y.code, r, y.cut⟩ = true
      · rw [if_pos (this.2 hf), if_pos hf]
      · rw [if_neg (fun e => hf (this.1 e)), if_neg hf]
  · rw [if_neg h0, if_neg h0]
theorem rWith_cut {l : List Cur} (h : tabE l = 0) {cur r t : Int} (ht : ∀ y, 0 ≤ cur → l[cur.toNat]? = some y → r = y.rate) : rWith l cur r t = wCut l cur t := by
  unfold rWith wCut
  by_cases h0 : 0 ≤ cur
  · rw [if_pos h0, if_pos h0]
    cases hy : l[cur.toNat]? with
    | none => rfl
    | some y =>
      dsimp only
      rw [ht y h0 hy]
      unfold withL
      have := tab_set (x := ⟨y.code, y.rate, t⟩) h hy rfl
      by_cases hf : fitsB (cur.toNat : Int) ⟨y.code, y.rate, t⟩ = true
      · rw [if_pos (this.2 hf), if_pos hf]
      · rw [if_neg (fun e => hf (this.1 e)), if_neg hf]
  · rw [if_neg h0, if_neg h0]
/-- what a changed table, or none, lies as -/
def WRes (h : Heap) (p : Option Addr) (n : Nat) (e : Int) : Option (List Cur) → Prop
  | none => p = none ∧ n = 0 ∧ e = 1
  | some l => Curs h p l ∧ l.length = n ∧ e = 0
theorem WRes.le {h h' : Heap} {p : Option Addr} {n : Nat} {e : Int} {o : Option (List Cur)} (w : WRes h p n e o) (l : h.le h') : WRes h' p n e o := by
  cases o with
  | none => exact w
  | some x => exact ⟨w.1.le l, w.2⟩
section
variable {K : Value → Heap → Prop} {h h0 : Heap} {p : Option Addr} {l : List Cur} {n c : Nat}
theorem WRes.err {p q : Option Addr} {n m : Nat} {e1 e2 : Int} {o : Option (List Cur)} {h h' : Heap} (w1 : WRes h p n e1 o) (w2 : WRes h' q m e2 o) : e1 = e2 := by
  cases o with
  | none => rw [w1.2.2, w2.2.2]
  | some l => rw [w1.2.2, w2.2.2]
/-! what amounts are worth -/
def curAt (l : List Cur) (cur : Int) : Option Cur := if 0 ≤ cur then l[cur.toNat]? else none
theorem curAt_some {l : List Cur} {cur : Int} {n : Nat} (hn : l.length = n) (hc : 0 ≤ cur ∧ cur < (n : Int)) : ∃ j x, cur = ((j : Nat) : Int) ∧ l[j]? = some x ∧ curAt l cur = some x := by
  obtain ⟨j, rfl⟩ := Int.eq_ofNat_of_zero_le hc.1
  have hx : l[j]? = some l[j] := List.getElem?_eq_getElem (by omega)
  exact ⟨j, _, rfl, hx, by unfold curAt; rw [if_pos hc.1, Int.toNat_natCast]; exact hx⟩
theorem curAt_none {l : List Cur} {cur : Int} {n : Nat} (hn : l.length = n) (hc : ¬ (0 ≤ cur ∧ cur < (n : Int))) : curAt l cur = none := by
  unfold curAt
  split
  · exact List.getElem?_eq_none (by omega)
  · rfl
def partC (x : Cur) (a : Int) : Int := if a < 0 then 10000 + x.cut else 10000 - x.cut
def worthR (l : List Cur) (cur a : Int) : Int × Int := match curAt l cur with
  | some x => md a (x.rate * partC x a) 100000000 false
  | none => (0, 1)
def plainR (l : List Cur) (cur a : Int) : Int × Int := match curAt l cur with
  | some x => md a x.rate 10000 false
  | none => (0, 1)
def changeR (l : List Cur) (f t a : Int) (up : Bool) : Int × Int := match curAt l f, curAt l t with
  | some x, some y => md a x.rate y.rate up
  | _, _ => (0, 1)
theorem inb_of (ok : l.all inbB = true) {j : Nat} {x : Cur} (hx : l[j]? = some x) : 1 ≤ x.rate ∧ x.rate ≤ 100000000 ∧ 0 ≤ x.cut ∧ x.cut ≤ 10000 := by
  have hj := List.mem_of_getElem? hx
  have := List.all_eq_true.1 ok x hj
  unfold inbB at this
  exact of_decide_eq_true this
theorem part_bound {x : Cur} (b : 1 ≤ x.rate ∧ x.rate ≤ 100000000 ∧ 0 ≤ x.cut ∧ x.cut ≤ 10000) (a : Int) : 0 ≤ partC x a ∧ partC x a ≤ 20000 ∧ I64 (x.rate * partC x a) ∧ 0 ≤ x.rate * partC x a := by
  have p1 : 0 ≤ partC x a ∧ partC x a ≤ 20000 := by unfold partC; split <;> omega
  have m1 : 0 ≤ x.rate * partC x a := Int.mul_nonneg (by omega) p1.1
  have m2 : x.rate * partC x a ≤ 100000000 * 20000 := Int.mul_le_mul b.2.1 p1.2 p1.1 (by omega)
  exact ⟨p1.1, p1.2, ⟨by omega, by omega⟩, m1⟩
theorem rate_I64 {x : Cur} (b : 1 ≤ x.rate ∧ x.rate ≤ 100000000 ∧ 0 ≤ x.cut ∧ x.cut ≤ 10000) : I64 x.rate := ⟨by omega, by omega⟩
theorem S_Change {f t a : Int} {up : Bool} (C : Curs h p l) (hn : l.length = n) (ok : l.all inbB = true) (ha : I64 a) (k : K (tuple #[.int .i64 (changeR l f t a up).1, .int .i64 (changeR l f t a up).2]) h) :
    CallA Try.prog fn_table_Change [slice p n c, .int .i64 f, .int .i64 t, .int .i64 a, .bool up] h K := by
  refine F_table_Change _ _ _ _ _ _ _ _ _ ?_
  unfold F_table_ChangeT
  unfold changeR at k
  refine S_has ⟨_, rfl, ?_⟩
  by_cases hc : 0 ≤ f ∧ f < (n : Int)
  · rw [decide_eq_true hc]
    obtain ⟨j, x, rfl, hx, e⟩ := curAt_some hn hc
    rw [e] at k
    refine Br.no rfl (S_has ⟨_, rfl, ?_⟩)
    by_cases hd : 0 ≤ t ∧ t < (n : Int)
    · rw [decide_eq_true hd]
      obtain ⟨i, y, rfl, hy, e2⟩ := curAt_some hn hd
      rw [e2] at k
      exact Br.no rfl (cx1 C hn rfl hx (cx1 C hn rfl hy (S_MulDiv ha (rate_I64 (inb_of ok hx)) (rate_I64 (inb_of ok hy)) up h _ ⟨_, _, rfl, Ret.mk k⟩)))
    · rw [decide_eq_false hd]
      rw [curAt_none hn hd] at k
      exact Br.yes rfl (Ret.mk k)
  · rw [decide_eq_false hc]
    rw [curAt_none hn hc] at k
    exact Br.yes rfl (Ret.mk k)
end
end Go.Proofs.Ytkcogdmddhkldaa
