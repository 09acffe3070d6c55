/- The reference's providers. -/
import Derived.Test.YtkcogdmddhkldaaLenText
import Derived.Test.YtkcogdmddhkldaaRws
import Derived.Test.YtkcogdmddhkldaaEqLenRef
import Derived.Test.YtkcogdmddhkldaaBigSum
namespace Go.Proofs.Ytkcogdmddhkldaa
open Go Go.Sy Go.Value
set_option linter.unusedVariables false
set_option linter.unusedSimpArgs false

def boolVs (l : List Bool) : List Value := l.map .bool
theorem boolVs_len (l : List Bool) : (boolVs l).length = l.length := by unfold boolVs; rw [List.length_map]
theorem boolVs_get (l : List Bool) {i : Nat} (h : i < l.length) : (boolVs l)[i]? = some (.bool (l.getD i false)) := by
  unfold boolVs
  rw [List.getElem?_map, List.getD_eq_getElem?_getD, List.getElem?_eq_getElem h]; rfl
structure RFr where
  p : Nat
  f : Rws
  q : Option Addr
  qc : Nat
  qs : List Value
structure RAt (h : Heap) (g : RFr) (S : Ln) : Prop where
  ap : At h g.p [.slice g.f.a S.L.length g.f.C, .slice g.q S.F.length g.qc, .int .i64 (S.cur : Int)]
  rw : RwsAt h g.f S.L S.cur
  bd : S.F.length = 0 ∨ ∃ B, g.q = some ⟨B, 0, none⟩ ∧ At h B (boolVs S.F ++ g.qs)
  dp : g.f.D S.L.length g.p = false
  db : ∀ B, g.q = some ⟨B, 0, none⟩ → B ≠ g.p ∧ g.f.D S.L.length B = false
  ok : S.Ok
def RFr.D (g : RFr) (n x : Nat) : Bool := x == g.p || (decide (0 < n) && (match g.q with | some ⟨B, 0, Option.none⟩ => B == x | _ => false)) || g.f.D n x
theorem RFr.D_t {g : RFr} {n x : Nat} (h : g.D n x = true) : x = g.p ∨ (0 < n ∧ g.q = some ⟨x, 0, none⟩) ∨ g.f.D n x = true := by
  unfold RFr.D at h
  rw [Bool.or_eq_true, Bool.or_eq_true, Bool.and_eq_true] at h
  rcases h with (h | ⟨h1, h2⟩) | h
  · exact .inl (by simpa using h)
  · split at h2
    · rename_i B e
      have : B = x := by simpa using h2
      exact .inr (.inl ⟨by simpa using h1, by rw [e, this]⟩)
    · cases h2
  · exact .inr (.inr h)
theorem RFr.D_p (g : RFr) (n : Nat) : g.D n g.p = true := by unfold RFr.D; simp
theorem RFr.D_f {g : RFr} {n x : Nat} (h : g.f.D n x = true) : g.D n x = true := by unfold RFr.D; rw [h, Bool.or_true]
theorem RFr.D_q {g : RFr} {n B : Nat} (h0 : 0 < n) (e : g.q = some ⟨B, 0, none⟩) : g.D n B = true := by unfold RFr.D; rw [e]; simp [h0]
section
variable {h0 h : Heap} {K : Value → Heap → Prop} {g : RFr} {S : Ln}
theorem RAt.mv {h' : Heap} (A : RAt h g S) (k : ∀ b xs, g.D S.L.length b = true → At h b xs → At h' b xs) : RAt h' g S := by
  refine { A with ap := k _ _ (g.D_p _) A.ap, rw := A.rw.mv fun b xs d a => k b xs (RFr.D_f d) a, bd := ?_ }
  rcases A.bd with e | ⟨B, e, a⟩
  · exact .inl e
  · by_cases h0 : 0 < S.L.length
    · exact .inr ⟨B, e, k _ _ (RFr.D_q h0 e) a⟩
    · exact .inl (by rw [A.ok.fl]; omega)
theorem RAt.le {h' : Heap} (A : RAt h g S) (l : h.le h') : RAt h' g S := A.mv fun b xs _ a => a.le l
theorem RAt.at (A : RAt h g S) {x : Nat} (e : g.D S.L.length x = true) : ∃ xs, At h x xs := by
  rcases RFr.D_t e with rfl | ⟨h0, e2⟩ | e2
  · exact ⟨_, A.ap⟩
  · rcases A.bd with e3 | ⟨B, e3, a⟩
    · rw [A.ok.fl] at e3; omega
    · rw [e2] at e3; cases e3; exact ⟨_, a⟩
  · exact A.rw.at e2
theorem RAt.fresh (A : RAt h g S) {x : Nat} (e : h x = none) : g.D S.L.length x = false := by
  cases hd : g.D S.L.length x with
  | false => rfl
  | true => obtain ⟨xs, a⟩ := A.at hd; exact (a.ne e rfl).elim
theorem RAt.rows (A : RAt h g S) : h.cell g.p 0 = some (.slice g.f.a S.L.length g.f.C) := A.ap.cell rfl
theorem RAt.flags (A : RAt h g S) : h.cell g.p (0 + 1) = some (.slice g.q S.L.length g.qc) := by have := A.ap.cell (o := 1) rfl; rw [A.ok.fl] at this; exact this
theorem RAt.curs (A : RAt h g S) : h.cell g.p (0 + 2) = some (.int .i64 (S.cur : Int)) := A.ap.cell rfl
theorem RAt.flag (A : RAt h g S) {i : Nat} (hi : i < S.L.length) : ∃ B, g.q = some ⟨B, 0, none⟩ ∧ h.cell B (0 + i) = some (.bool (S.F.getD i false)) ∧ h.canSt B (0 + i) 1 := by
  have hf := A.ok.fl
  obtain ⟨B, e, a⟩ := A.bd.resolve_left (by omega)
  exact ⟨B, e, a.cell (by rw [Nat.zero_add, List.getElem?_append_left (by rw [boolVs_len]; omega), boolVs_get _ (by omega)]), a.canSt (by rw [List.length_append, boolVs_len]; omega)⟩
theorem S_rLeft (A : RAt h g S) {a c : Int} (k : K (.int .i64 (leftN S a c)) h) : CallA Try.prog fn_pref15_Lenders_Left [pointer (some ⟨g.p, 0, none⟩), .int .i64 a, .int .i64 c] h K := by
  refine F_pref15_Lenders_Left _ _ _ _ _ ?_
  unfold F_pref15_Lenders_LeftT
  unfold leftN at k
  have kn : (∃ i : Nat, a = i ∧ i < S.L.length) → knownB S a = true := fun ⟨i, e, hi⟩ => by unfold knownB; exact decide_eq_true (by omega)
  have hn : (∃ i : Nat, c = i ∧ i < S.cur) → hasC S c = true := fun ⟨i, e, hi⟩ => by unfold hasC; exact decide_eq_true (by omega)
  refine Br.dec (fun g1 => ?_) fun g1 => withAddr_intro rfl ⟨_, _, _, A.rows, Br.dec (fun g2 => ?_) fun g2 => Br.dec (fun g3 => ?_) fun g3 => withAddr_intro rfl ⟨_, A.curs, Br.dec (fun g4 => ?_) fun g4 => ?_⟩⟩
  · rw [if_pos (by unfold knownB; exact decide_eq_false (by omega))] at k; exact Ret.mk k
  · rw [if_pos (by unfold knownB; exact decide_eq_false (by omega))] at k; exact Ret.mk k
  · rw [if_neg (by rw [kn ⟨a.toNat, by omega, by omega⟩]; decide), if_pos (by unfold hasC; exact decide_eq_false (by omega))] at k; exact Ret.mk k
  · rw [if_neg (by rw [kn ⟨a.toNat, by omega, by omega⟩]; decide), if_pos (by unfold hasC; exact decide_eq_false (by omega))] at k; exact Ret.mk k
  · obtain ⟨i, rfl⟩ : ∃ i : Nat, a = i := ⟨a.toNat, by omega⟩
    obtain ⟨c, rfl⟩ : ∃ i : Nat, c = i := ⟨c.toNat, by omega⟩
    have hi : i < S.L.length := by omega
    have hc : c < S.cur := by omega
    rw [if_neg (by rw [kn ⟨i, rfl, hi⟩]; decide), if_neg (by rw [hn ⟨c, rfl, hc⟩]; decide)] at k
    simp only [Int.toNat_natCast] at k
    obtain ⟨B, e, hb, _⟩ := A.flag hi
    refine withAddr_intro rfl ⟨_, _, _, A.flags, by omega, by omega, withAddr_intro e ⟨_, hb, ?_⟩⟩
    unfold roomN at k
    cases hf : S.F.getD i false with
    | true => rw [hf, if_pos rfl] at k; exact Br.yes rfl (Ret.mk k)
    | false => rw [hf, if_neg (by decide)] at k; exact Br.no rfl (withAddr_intro rfl ⟨_, _, _, A.rows, by omega, by omega, A.rw.get hi hc (Ret.mk k)⟩)
theorem RAt.wrF (A : RAt h g S) {i B : Nat} {b : Bool} (hi : i < S.L.length) (e : g.q = some ⟨B, 0, none⟩) : RAt (h.setN B (0 + i) [.bool b]) g ⟨S.L, S.F.set i b, S.cur⟩ := by
  obtain ⟨n1, n2⟩ := A.db B e
  have hf := A.ok.fl
  refine ⟨?_, A.rw.mv (fun x xs d a => a.set_ne fun e2 => by rw [e2, n2] at d; cases d), .inr ⟨B, e, ?_⟩, A.dp, A.db, ⟨A.ok.n8, A.ok.c1, A.ok.c8, A.ok.sh, by show (S.F.set i b).length = S.L.length; rw [List.length_set]; exact hf, A.ok.i64, A.ok.pos⟩⟩
  · have := A.ap.set_ne (o := 0 + i) (ws := [.bool b]) n1.symm
    rw [List.length_set]
    exact this
  · obtain ⟨B', e', a⟩ := A.bd.resolve_left (by omega)
    rw [e] at e'; cases e'
    have := a.set (o := 0 + i) (ws := [.bool b])
    rw [Nat.zero_add, setL, setL, setT_eq, List.set_append_left _ _ (by rw [boolVs_len]; omega)] at this
    rw [Nat.zero_add]
    unfold boolVs at this ⊢
    rw [List.map_set]
    exact this
theorem RAt.wrR (A : RAt h g S) {i c : Nat} {v : Int} (hi : i < S.L.length) (hc : c < S.cur) (hv : I64 v) (h0 : 0 ≤ v) : RAt (h.setN (g.f.R i) (0 + c) [.int .i64 v]) g ⟨wrM S.L i c v, S.F, S.cur⟩ := by
  have hl : (wrM S.L i c v).length = S.L.length := (A.ok.sh.wr hi).1
  have hd := g.f.D_row hi
  refine ⟨?_, A.rw.wr hi hc, ?_, by rw [hl]; exact A.dp, fun B e => by rw [hl]; exact A.db B e, A.ok.wr hi hc hv h0⟩
  · rw [hl]
    exact A.ap.set_ne fun e => by rw [← e, A.dp] at hd; cases hd
  · rcases A.bd with e | ⟨B, e, a⟩
    · exact .inl e
    · exact .inr ⟨B, e, a.set_ne fun e2 => by rw [← e2, (A.db B e).2] at hd; cases hd⟩
theorem S_rFail (l0 : h0.le h) (fr : ∀ x, g.D S.L.length x = true → h0 x = none) (A : RAt h g S) {a : Int} (k : ∀ h', h0.le h' → RAt h' g (failN S a).2 → K (.int .i64 (failN S a).1) h') :
    CallA Try.prog fn_pref15_Lenders_Fail [pointer (some ⟨g.p, 0, none⟩), .int .i64 a] h K := by
  refine F_pref15_Lenders_Fail _ _ _ _ ?_
  unfold F_pref15_Lenders_FailT
  unfold failN at k
  refine Br.dec (fun g1 => ?_) fun g1 => withAddr_intro rfl ⟨_, _, _, A.rows, Br.dec (fun g2 => ?_) fun g2 => ?_⟩
  · rw [if_pos (by unfold knownB; exact decide_eq_false (by omega))] at k; exact Ret.mk (k h l0 A)
  · rw [if_pos (by unfold knownB; exact decide_eq_false (by omega))] at k; exact Ret.mk (k h l0 A)
  · obtain ⟨i, rfl⟩ : ∃ i : Nat, a = i := ⟨a.toNat, by omega⟩
    have hi : i < S.L.length := by omega
    rw [if_neg (by unfold knownB; rw [decide_eq_true (by omega)]; decide), Int.toNat_natCast] at k
    obtain ⟨B, e, hb, hst⟩ := A.flag hi
    refine withAddr_intro rfl ⟨_, _, _, A.flags, by omega, by omega, withAddr_intro e ⟨_, hb, ?_⟩⟩
    cases hf : S.F.getD i false with
    | true => rw [hf, if_pos rfl] at k; exact Br.yes rfl (Ret.mk (k h l0 A))
    | false =>
      rw [hf, if_neg (by decide)] at k
      exact Br.no rfl (withAddr_intro rfl ⟨_, _, _, A.flags, by omega, by omega, withAddr_intro e ⟨hst, Ret.mk (k _ (le_setN l0 (fr B (RFr.D_q (by omega) e))) (A.wrF hi e))⟩⟩)
/-! draws -/
theorem rdraw_0 {n : Nat} (fr : ∀ x, g.D n x = true → h0 x = none) {c : Nat} (hc : c < S.cur) (hn : S.L.length = n) {res : List Prt × Int × Mx}
    (k : ∀ p' c' h', h0.le h' → OwnL h0 h' [.int .i64 0, .int .i64 0] p' c' (ptV res.1) → RAt h' g ⟨res.2.2, S.F, S.cur⟩ → (∀ b, p' = some ⟨b, 0, none⟩ → g.D n b = false) → K (tuple #[slice p' res.1.length c', .int .i64 res.2.1, .int .i64 0]) h') :
    ∀ (m j : Nat) (h : Heap) (need : Int) (M : Mx) (out : Option Addr) (oc : Nat) (done : List Prt), m + j = n → h0.le h → I64 need → 0 ≤ need → RAt h g ⟨M, S.F, S.cur⟩ → M.length = n → OwnL h0 h [.int .i64 0, .int .i64 0] out oc (ptV done) → done.length ≤ j → (∀ b, out = some ⟨b, 0, none⟩ → g.D n b = false) →
    (done ++ (drawM S.F c m j need M).1, (drawM S.F c m j need M).2) = res →
    L_pref15_Lenders_Draw_0 (some ⟨g.p, 0, none⟩) (c : Int) need out done.length oc (j : Int) h K
  | 0, j, h, need, M, out, oc, done, hj, l0, hI, hn0, A, hM, own, hd, dis, e => by
    refine L_pref15_Lenders_Draw_0r _ _ _ _ _ _ _ _ _ ?_
    unfold L_pref15_Lenders_Draw_0T
    have e : (done ++ [], need, M) = res := e
    rw [List.append_nil] at e
    subst e
    refine withAddr_intro rfl ⟨_, _, _, A.rows, Br.no (decide_eq_false (by show ¬ (j : Int) < (M.length : Int); omega)) (Ret.mk (k out oc h l0 own A dis))⟩
  | m + 1, j, h, need, M, out, oc, done, hj, l0, hI, hn0, A, hM, own, hd, dis, e => by
    refine L_pref15_Lenders_Draw_0r _ _ _ _ _ _ _ _ _ ?_
    unfold L_pref15_Lenders_Draw_0T
    have hji : j < M.length := by omega
    have n8 := A.ok.n8
    have n8 : M.length ≤ 8 := n8
    have hlf : leftN ⟨M, S.F, S.cur⟩ (j : Int) (c : Int) = roomN S.F c j M := by
      unfold leftN
      rw [if_neg (by unfold knownB; rw [decide_eq_true (by show 0 ≤ (j : Int) ∧ (j : Int) < (M.length : Int); omega)]; decide), if_neg (by unfold hasC; rw [decide_eq_true (by show 0 ≤ (c : Int) ∧ (c : Int) < (S.cur : Int); omega)]; decide)]
      simp only [Int.toNat_natCast]
    have rl := roomN_le (F := S.F) (A.ok.pos j c)
    have rI := A.ok.i64 j c
    have rl : 0 ≤ roomN S.F c j M ∧ roomN S.F c j M ≤ rdM M j c := rl
    have rI : I64 (rdM M j c) := rI
    unfold I64 at rI hI
    rw [drawM] at e
    refine withAddr_intro rfl ⟨_, _, _, A.rows, Br.yes (decide_eq_true (by show (j : Int) < (M.length : Int); omega)) (S_rLeft A ⟨_, rfl, ?_⟩)⟩
    rw [hlf]
    have hab : 0 ≤ (if need < roomN S.F c j M then need else roomN S.F c j M) ∧ (if need < roomN S.F c j M then need else roomN S.F c j M) ≤ need ∧ (if need < roomN S.F c j M then need else roomN S.F c j M) ≤ roomN S.F c j M := by split <;> omega
    generalize (if need < roomN S.F c j M then need else roomN S.F c j M) = a at *
    obtain ⟨a0, a1, a2⟩ := hab
    rw [w1 (by omega)]
    refine Br.dec (fun g1 => ?_) fun g1 => ?_
    · rw [if_pos (by omega)] at e
      obtain ⟨B, eB, hcl⟩ := A.rw.cl hji
      have hcl : h.cell B (0 + j) = some (.slice (some ⟨g.f.R j, 0, none⟩) S.cur (g.f.CC j)) := hcl
      have e1 : IntKind.wrap .i64 (rdM M j c - a) = rdM M j c - a := wrap_i64_id (by omega) (by omega)
      have e2 : IntKind.wrap .i64 (need - a) = need - a := wrap_i64_id (by omega) (by omega)
      have A1 : RAt (h.setN (g.f.R j) (0 + c) [.int .i64 (rdM M j c - a)]) g ⟨wrM M j c (rdM M j c - a), S.F, S.cur⟩ := A.wrR (S := ⟨M, S.F, S.cur⟩) hji hc (by unfold I64; omega) (by omega)
      have hDr : g.D n (g.f.R j) = true := RFr.D_f (by rw [← hM]; exact g.f.D_row hji)
      have o1 : OwnL h0 (h.setN (g.f.R j) (0 + c) [.int .i64 (rdM M j c - a)]) [.int .i64 0, .int .i64 0] out oc (ptV done) := own.set_ne fun e => by rw [dis _ e] at hDr; cases hDr
      have l1 : h0.le (h.setN (g.f.R j) (0 + c) [.int .i64 (rdM M j c - a)]) := le_setN l0 (fr _ hDr)
      have hji' : (j : Int) < (M.length : Int) := by omega
      have hcc : (c : Int) < (S.cur : Int) := by omega
      refine withAddr_intro rfl ⟨_, _, _, A.rows, by omega, hji', withAddr_intro eB ⟨_, _, _, hcl, withAddr_intro rfl ⟨_, _, _, A.rows, by omega, hji', withAddr_intro eB ⟨_, _, _, hcl, by omega, hcc, withAddr_intro rfl ⟨_, A.rw.amt (i := j) (c := c) hji hc, by omega, hcc, withAddr_intro rfl ⟨A.rw.st (i := j) (c := c) hji hc, ?_⟩⟩⟩⟩⟩⟩
      try dsimp only
      simp only [Int.toNat_natCast]
      rw [e1, e2]
      generalize h.setN (g.f.R j) (0 + c) [.int .i64 (rdM M j c - a)] = h1 at *
      have hl2 : (wrM M j c (rdM M j c - a)).length = n := by unfold wrM; rw [List.length_set, hM]
      refine push1 o1 (by decide) l1 (by omega) rfl rfl (by rw [ptV_length]; rfl) fun r h2 p' c' h3 hr l2 l3 w3 keep how => ?_
      have A2 := A1.le l2
      have w3 : OwnL h0 h3 [.int .i64 0, .int .i64 0] p' c' (ptV (done ++ [⟨(j : Int), a⟩])) := by rw [ptV_append]; exact w3
      have A3 : RAt h3 g ⟨wrM M j c (rdM M j c - a), S.F, S.cur⟩ := A2.mv fun b xs hd aa => keepAt keep aa fun e => by
        have h9 := dis b e
        have h8 : g.D n b = true := by rw [← hl2]; exact hd
        rw [h9] at h8; cases h8
      have dis3 : ∀ b, p' = some ⟨b, 0, none⟩ → g.D n b = false := fun b e => by
        rcases how with rfl | ⟨s, e5, hs⟩
        · exact dis b e
        · rw [e5] at e; cases e
          have := A2.fresh hs
          rw [show (⟨wrM M j c (rdM M j c - a), S.F, S.cur⟩ : Ln).L.length = n from hl2] at this
          exact this
      have := rdraw_0 fr hc hn k m (j + 1) h3 (need - a) (wrM M j c (rdM M j c - a)) p' c' (done ++ [⟨(j : Int), a⟩]) (by omega) l3 (by unfold I64; omega) (by omega) A3 hl2 w3 (by rw [List.length_append]; simp; omega) dis3 (by rw [← e, List.append_assoc]; rfl)
      rw [List.length_append] at this
      exact this
    · rw [if_neg (by omega)] at e
      rw [show a = 0 by omega, Int.sub_zero] at e
      exact rdraw_0 fr hc hn k m (j + 1) h need M out oc done (by omega) l0 hI hn0 A hM own (by omega) dis e
theorem S_rDraw {h : Heap} (l0 : h0.le h) (fr : ∀ x, g.D S.L.length x = true → h0 x = none) (A : RAt h g S) {c need : Int} (hI : I64 need)
    (k : ∀ h' p' c', h0.le h' → RAt h' g (drawN S c need).2.2.2 → rdL h' p' (ptV (drawN S c need).1) → (∀ b, p' = some ⟨b, 0, none⟩ → g.D S.L.length b = false) → (∀ b xs, g.D S.L.length b = false → At h b xs → p' ≠ some ⟨b, 0, none⟩) → K (tuple #[slice p' (drawN S c need).1.length c', .int .i64 (drawN S c need).2.1, .int .i64 (drawN S c need).2.2.1]) h') :
    CallA Try.prog fn_pref15_Lenders_Draw [pointer (some ⟨g.p, 0, none⟩), .int .i64 c, .int .i64 need] h K := by
  refine F_pref15_Lenders_Draw _ _ _ _ _ ?_
  unfold F_pref15_Lenders_DrawT
  unfold drawN at k
  have out : hasC S c = false ∨ need < 0 → K (tuple #[slice none 0 0, .int .i64 0, .int .i64 1]) h := fun ho => by
    by_cases g1 : hasC S c = false
    · rw [if_pos g1] at k
      exact k h none 0 l0 A (.inl rfl) (fun b e => by cases e) fun b xs _ _ e => by cases e
    · rw [if_neg g1, if_pos (ho.resolve_left g1)] at k
      exact k h none 0 l0 A (.inl rfl) (fun b e => by cases e) fun b xs _ _ e => by cases e
  refine Br.dec (fun g1 => Ret.mk (out (.inl (by unfold hasC; exact decide_eq_false (by omega))))) fun g1 => withAddr_intro rfl ⟨_, A.curs, Br.dec (fun g2 => Ret.mk (out (.inl (by unfold hasC; exact decide_eq_false (by omega))))) fun g2 => Br.dec (fun g3 => Ret.mk (out (.inr g3))) fun g3 => ?_⟩
  obtain ⟨c, rfl⟩ : ∃ i : Nat, c = i := ⟨c.toNat, by omega⟩
  have hc : c < S.cur := by omega
  rw [if_neg (by unfold hasC; rw [decide_eq_true (by omega)]; decide), if_neg g3, Int.toNat_natCast] at k
  intro r hr
  -- what was there before lies elsewhere
  refine rdraw_0 (h0 := h.wo (g.D S.L.length)) (res := drawM S.F c S.L.length 0 need S.L) (fun x hx => wo_none hx) hc rfl (fun p' c' h' l' own A' dis => ?_) S.L.length 0 _ need S.L (some ⟨r, 0, none⟩) 0 [] (by omega) (Heap.le_trans (wo_le _ _) (le_ins hr)) hI (by omega) (A.le (le_ins hr)) rfl ?_ (Nat.zero_le _) (fun b e => by cases e; exact A.fresh hr) rfl
  · refine k h' p' c' (Heap.le_trans (le_wo l0 fr) l') A' own.rd dis fun b xs hb a e => ?_
    rcases own with ⟨_, q, _⟩ | ⟨s, sp, q, hs, _, _⟩
    · rw [q] at e; cases e
    · rw [q] at e; cases e
      exact (a.wo hb).ne hs rfl
  · exact .inr ⟨r, [], rfl, none_of_le (wo_le _ _) hr, At.new h r _ _, rfl⟩
end
end Go.Proofs.Ytkcogdmddhkldaa
