/- The law LedgerDoes. -/
import Derived.Test.YtkcogdmddhkldaaXLedC
import Derived.Test.YtkcogdmddhkldaaLedOn
import Derived.Test.YtkcogdmddhkldaaEqLedDoes
namespace Go.Proofs.Ytkcogdmddhkldaa
open Go Go.Sy Go.Value
set_option linter.unusedVariables false
set_option linter.unusedSimpArgs false

theorem wr_len {S : Lg} {i c : Nat} {v : Int} : (wrG S i c v).M.length = S.M.length := by unfold wrG wrM; rw [List.length_set]
theorem inG_len {S : Lg} (m c a : Int) : (inG S m c a).2.M.length = S.M.length ∧ (inG S m c a).2.cur = S.cur := by
  unfold inG
  repeat' split
  all_goals exact ⟨by first | rfl | exact wr_len, rfl⟩
theorem outG_len {S : Lg} (m c a : Int) : (outG S m c a).2.M.length = S.M.length ∧ (outG S m c a).2.cur = S.cur := by
  unfold outG
  repeat' split
  all_goals exact ⟨by first | rfl | exact wr_len, rfl⟩
theorem swapG_len {S : Lg} (m g v a b : Int) : (swapG S m g v a b).2.M.length = S.M.length ∧ (swapG S m g v a b).2.cur = S.cur := by
  unfold swapG
  repeat' split
  all_goals exact ⟨by first | rfl | (show (wrM (wrM S.M _ _ _) _ _ _).length = _; unfold wrM; rw [List.length_set, List.length_set]), rfl⟩
theorem postG_len {S : Lg} (b : List Pst) : (postG S b).2.M.length = S.M.length ∧ (postG S b).2.cur = S.cur := by
  unfold postG
  repeat' split
  all_goals exact ⟨by first | rfl | exact addsM_len _ _, rfl⟩
theorem doG_len {S : Lg} (x : OpR) : (doG S x).2.M.length = S.M.length ∧ (doG S x).2.cur = S.cur := by
  unfold doG
  split
  · exact inG_len _ _ _
  split
  · exact outG_len _ _ _
  split
  · exact swapG_len _ _ _ _ _
  · exact postG_len _
theorem LedAt.wo {h : Heap} {p B C : Nat} {sp : List Value} {S : Lg} {D : Nat → Bool} (A : LedAt h p B C sp S) (e1 : D p = false) (e2 : D B = false) : LedAt (h.wo D) p B C sp S := ⟨A.ap.wo e1, A.ab.wo e2, A.ne, A.sz⟩
section
variable {h0 : Heap} {K : Value → Heap → Prop} {p : Nat}
theorem ldoes_1 {h : Heap} {B C : Nat} {sp : List Value} {g : XFr} {S : Lg} {oq : Option Addr} {on oc : Nat} {i : Int} (A : LedAt h p B C sp S) (X : XAt h g S) (k : L_law08_LedgerDoes_0 (S.cur : Int) oq on oc (some ⟨p, 0, none⟩) (some ⟨g.p, 0, none⟩) (IntKind.wrap .i64 (i + 1)) h K) :
    ∀ (m j : Nat), m + j = S.cur + 2 → L_law08_LedgerDoes_1 (S.cur : Int) oq on oc (some ⟨p, 0, none⟩) (some ⟨g.p, 0, none⟩) i ((j : Int) - 1) h K
  | 0, j, hj => by
    refine L_law08_LedgerDoes_1r _ _ _ _ _ _ _ _ _ _ ?_
    unfold L_law08_LedgerDoes_1T
    exact Br.no (by simp; omega) k
  | m + 1, j, hj => by
    refine L_law08_LedgerDoes_1r _ _ _ _ _ _ _ _ _ _ ?_
    unfold L_law08_LedgerDoes_1T
    have c8 := A.sz.c8
    have n1 := A.sz.n1
    have ih := ldoes_1 A X k m (j + 1) (by omega)
    rw [wrap_i64_id (n := (j : Int) - 1 + 1) (by omega) (by omega), show (j : Int) - 1 + 1 = ((j + 1 : Nat) : Int) - 1 by omega]
    have out : ¬ (0 ≤ (j : Int) - 1 ∧ (j : Int) - 1 < (S.cur : Int)) → nosG S ((j : Int) - 1) = 0 := fun hh => by
      unfold nosG
      rw [if_neg]
      unfold hasB
      rw [decide_eq_false (fun x => hh ⟨x.2.2.1, x.2.2.2⟩)]; decide
    refine Br.yes (by simp; omega) (Br.dec (fun g1 => Br.dec (fun g2 => ?_) fun g2 => S_lNostro A ⟨_, rfl, ?_⟩) fun g1 => S_lNostro A ⟨_, rfl, ?_⟩)
    · obtain ⟨c, hc⟩ : ∃ c : Nat, (j : Int) - 1 = c := ⟨j - 1, by omega⟩
      have hcc : c < S.cur := by omega
      rw [hc]
      refine X.getN hcc (S_lNostro A ⟨_, rfl, ?_⟩)
      have : nosG S (c : Int) = S.N.getD c 0 := by
        unfold nosG
        rw [if_pos (by unfold hasB; exact decide_eq_true (by omega)), Int.toNat_natCast]
      rw [this]
      exact Br.no (by simp) ih
    · rw [out (by omega)]; exact Br.no rfl ih
    · rw [out (by omega)]; exact Br.no rfl ih
theorem ldoes_1023 {h : Heap} {B C : Nat} {sp : List Value} {g : XFr} {S : Lg} {oq : Option Addr} {on oc x : Nat} {i e : Int} {o : OpR} (A : LedAt h p B C sp S) (X : XAt h g S) (Ax : At h x (opV1 o)) (k : ∀ h', h.le h' → L_law08_LedgerDoes_0 (S.cur : Int) oq on oc (some ⟨p, 0, none⟩) (some ⟨g.p, 0, none⟩) (IntKind.wrap .i64 (i + 1)) h' K) :
    L_law08_LedgerDoes_1023 (S.cur : Int) oq on oc (some ⟨p, 0, none⟩) (some ⟨g.p, 0, none⟩) i x e e h K := by
  refine L_law08_LedgerDoes_1023r _ _ _ _ _ _ _ _ _ _ _ _ ?_
  unfold L_law08_LedgerDoes_1023T
  refine Br.no (by simp) (S_lText A fun h1 l1 => ⟨_, rfl, S_xText (X.le l1) fun h2 l2 => ⟨_, rfl, Br.no (by rw [beq_self_eq_true]; rfl) ?_⟩⟩)
  have l12 := Heap.le_trans l1 l2
  have A2 := A.le l12
  have X2 := X.le l12
  have Ax2 := Ax.le l12
  refine ⟨_, Ax2.cell rfl, _, Ax2.cell rfl, _, Ax2.cell rfl, _, Ax2.cell rfl, S_lGet A2 ⟨_, rfl, .inl h2.le_refl, S_xGet X2 ⟨_, rfl, Br.no (by simp) ?_⟩⟩⟩
  refine L_law08_LedgerDoes_1025r _ _ _ _ _ _ _ _ _ ?_
  unfold L_law08_LedgerDoes_1025T
  exact ldoes_1 A2 X2 (k h2 l12) (S.cur + 2) 0 rfl
theorem ldoes_0 (kg : ∀ h', h0.le h' → Ret h' K (.bool true)) {oq : Option Addr} {l : List OpR} {on oc : Nat} (XO : Ops h0 oq l) (hon : l.length = on) (hs : on ≤ 40) (hOI : ∀ x ∈ l, OpI x) (hb : ∀ x ∈ l, x.b.length ≤ 30) (np : h0 p = none) {n w : Nat} :
    ∀ (m j : Nat) (h : Heap) (B C : Nat) (sp : List Value) (g : XFr) (S : Lg), m + j = on → h0.le h → h0 B = none → LedAt h p B C sp S → S.Ok → XAt h g S → (∀ x, g.D n x = true → h0 x = none) → g.D n p = false → g.D n B = false → S.M.length = n → S.cur = w →
    L_law08_LedgerDoes_0 (w : Int) oq on oc (some ⟨p, 0, none⟩) (some ⟨g.p, 0, none⟩) (j : Int) h K
  | 0, j, h, B, C, sp, g, S, hj, l0, nB, A, o, X, gf, gp, gB, hn, hw => by
    refine L_law08_LedgerDoes_0r _ _ _ _ _ _ _ _ _ ?_
    unfold L_law08_LedgerDoes_0T
    exact Br.yes rfl (Br.no (by simp; omega) (kg h l0))
  | m + 1, j, h, B, C, sp, g, S, hj, l0, nB, A, o, X, gf, gp, gB, hn, hw => by
    subst hw hn
    refine L_law08_LedgerDoes_0r _ _ _ _ _ _ _ _ _ ?_
    unfold L_law08_LedgerDoes_0T
    have hx : l[j]? = some l[j] := List.getElem?_eq_getElem (by omega)
    have hmem : l[j] ∈ l := List.getElem_mem _
    generalize l[j] = x at *
    have I := hOI x hmem
    have hb30 := hb x hmem
    have hlen := doG_len (S := S) x
    have hok := doG_ok o x
    refine Br.yes rfl (Br.yes (by simp; omega) (ox (XO.le l0) hon rfl hx (newB_cp (vs := opV1 x) rfl fun r h1 hr l1 Ar st => ⟨st, ?_⟩)))
    have rp : r ≠ p := fun e => A.ap.ne hr e.symm
    have rB : r ≠ B := fun e => A.ab.ne hr e.symm
    have rg : g.D S.M.length r = false := X.fresh hr
    show ∃ n_7, (h1.setN r 0 (opV1 x)).cell r 0 = some (int IntKind.i64 n_7) ∧ _
    have l02 := Heap.le_trans l0 l1
    have A2 := A.le l1
    have X2 := X.le l1
    generalize hh3 : h1.setN r 0 (opV1 x) = h3 at *
    have hh4 : h1.setN r 0 [.int .i64 x.d, .int .i64 x.m, .int .i64 x.c, .int .i64 x.g, .int .i64 x.a, .int .i64 x.gv, slice x.p x.b.length x.cp] = h3 := hh3
    rw [hh4]
    refine ⟨_, Ar.cell rfl, _, Ar.cell rfl, _, Ar.cell rfl, _, Ar.cell rfl, _, Ar.cell rfl, _, Ar.cell rfl, _, _, _, Ar.cell rfl, ?_⟩
    have g1 : h0.le ((h3.del p).del B) := le_del (le_del l02 np) nB
    have gh1 : ((h3.del p).del B).le h3 := Heap.le_trans (del_le _ _) (del_le _ _)
    have thru : ∀ {b : Nat} {xs : List Value}, At h3 b xs → b ≠ p → b ≠ B → At ((h3.del p).del B) b xs := fun a e1 e2 => (a.del e1).del e2
    have gne : ∀ b, g.D S.M.length b = true → b ≠ p ∧ b ≠ B := fun b hb => ⟨fun e => (by rw [e, gp] at hb; cases hb), fun e => (by rw [e, gB] at hb; cases hb)⟩
    refine S_do gh1 none2 (del_same _ _) A2 (rdL_le g1 (XO.2 x hmem)) I (by omega) fun h4 B' C' sp' l4 A4 nB' => ⟨_, rfl, ?_⟩
    have Ar4 := (thru Ar rp rB).le l4
    have X4 : XAt h4 g S := X2.mv fun b xs d a => (thru a (gne b d).1 (gne b d).2).le l4
    have gB' : g.D S.M.length B' = false := by
      cases hd : g.D S.M.length B' with
      | false => rfl
      | true =>
        obtain ⟨xs, a⟩ := X2.at hd
        exact ((thru a (gne _ hd).1 (gne _ hd).2).ne nB' rfl).elim
    have nB'0 := none_of_le g1 nB'
    have l04 := Heap.le_trans g1 l4
    have lw : h0.le (h4.wo (g.D S.M.length)) := le_wo l04 gf
    have fr : ∀ y, g.D S.M.length y = true → (h4.wo (g.D S.M.length)) y = none := fun y hy => wo_none hy
    have lww := wo_le h4 (g.D S.M.length)
    have next : ∀ (h5 : Heap) (g' : XFr) (e : Int), (h4.wo (g.D S.M.length)).le h5 → XAt h5 g' (doG S x).2 → g'.p = g.p → (∀ y, g'.D S.M.length y = true → g.D S.M.length y = true ∨ h4 y = none) →
        L_law08_LedgerDoes_1023 (S.cur : Int) oq on oc (some ⟨p, 0, none⟩) (some ⟨g.p, 0, none⟩) (j : Int) r e e h5 K := fun h5 g' e l5 X5 ep hD => by
      have A5 : LedAt h5 p B' C' sp' (doG S x).2 := (A4.wo gp gB').le l5
      have Ar5 := (Ar4.wo rg).le l5
      have l05 := Heap.le_trans lw l5
      have nD : ∀ y, g.D S.M.length y = false → (∃ xs, At h4 y xs) → g'.D S.M.length y = false := fun y hy ⟨xs, a⟩ => by
        cases hd : g'.D S.M.length y with
        | false => rfl
        | true =>
          rcases hD y hd with h1 | h1
          · rw [hy] at h1; cases h1
          · exact (a.ne h1 rfl).elim
      rw [← ep, ← hlen.2]
      refine ldoes_1023 A5 X5 Ar5 fun h6 l6 => ?_
      rw [w1 (by omega)]
      exact ldoes_0 kg XO hon hs hOI hb np m (j + 1) h6 B' C' sp' g' _ (by omega) (Heap.le_trans l05 l6) nB'0 (A5.le l6) hok (X5.le l6) (fun y hy => by
        rcases hD y hy with h1 | h1
        · exact gf y h1
        · exact none_of_le l04 h1) (nD p gp ⟨_, A4.ap⟩) (nD B' gB' ⟨_, A4.ab⟩) hlen.1 rfl
    have sameD : ∀ y, g.D S.M.length y = true → g.D S.M.length y = true ∨ h4 y = none := fun y hy => .inl hy
    refine ⟨_, Ar4.cell rfl, ?_⟩
    by_cases d0 : x.d = 0
    · have e0 : doG S x = inG S x.m x.c x.a := by unfold doG; rw [if_pos d0]
      refine Br.yes (by simpa using d0) ⟨_, Ar4.cell rfl, _, Ar4.cell rfl, _, Ar4.cell rfl, S_xIn lww fr X4 I.a fun h5 l5 X5 => ⟨_, rfl, ?_⟩⟩
      rw [e0]
      exact next h5 g _ l5 (by rw [e0]; exact X5) rfl sameD
    refine Br.no (by simpa using d0) ?_
    by_cases d1 : x.d = 1
    · have e0 : doG S x = outG S x.m x.c x.a := by unfold doG; rw [if_neg d0, if_pos d1]
      refine Br.yes (by simpa using d1) ⟨_, Ar4.cell rfl, _, Ar4.cell rfl, _, Ar4.cell rfl, S_xOut lww fr X4 I.a fun h5 l5 X5 => ⟨_, rfl, ?_⟩⟩
      rw [e0]
      exact next h5 g _ l5 (by rw [e0]; exact X5) rfl sameD
    refine Br.no (by simpa using d1) ?_
    by_cases d3 : x.d = 3
    · have e0 : doG S x = swapG S x.m x.c x.g x.a x.gv := by unfold doG; rw [if_neg d0, if_neg d1, if_pos d3]
      refine Br.yes (by simpa using d3) ⟨_, Ar4.cell rfl, _, Ar4.cell rfl, _, Ar4.cell rfl, _, Ar4.cell rfl, _, Ar4.cell rfl, S_xSwap lww fr X4 I.a I.gv fun h5 l5 X5 => ⟨_, rfl, ?_⟩⟩
      rw [e0]
      exact next h5 g _ l5 (by rw [e0]; exact X5) rfl sameD
    · have e0 : doG S x = postG S x.b := by unfold doG; rw [if_neg d0, if_neg d1, if_neg d3]
      refine Br.no (by simpa using d3) ⟨_, _, _, Ar4.cell rfl, S_xPost lww fr X4 (rdL_le l04 (XO.2 x hmem)) rfl (by omega) I.b fun h5 g' l5 X5 ep hD => ⟨_, rfl, ?_⟩⟩
      rw [e0]
      exact next h5 g' _ l5 (by rw [e0]; exact X5) ep hD
end
theorem law08_LedgerDoes_ok {h : Heap} {m c : Int} (hm : I64 m) (hc : I64 c) {q : Option Addr} {n qc : Nat} (HO : opsSh.Has h [.slice q n qc]) :
    CallA Try.prog fn_law08_LedgerDoes [.int .i64 m, .int .i64 c, slice q n qc] h fun v h' => v = .bool true ∧ h.le h' := by
  obtain ⟨hmax, l, hl, X, hI, _⟩ := ops_of HO
  refine F_law08_LedgerDoes _ _ _ _ _ _ _ ?_
  unfold F_law08_LedgerDoesT
  have kg : ∀ h', h.le h' → Ret h' (fun v h' => v = .bool true ∧ h.le h') (.bool true) := fun h' l' => Ret.mk ⟨rfl, l'⟩
  refine S_law08_awake fun h1 l1 => ⟨_, rfl, Br.no rfl (S_large08 (X.le l1) hl hmax fun b hb => ⟨_, rfl, ?_⟩)⟩
  cases b with
  | true => exact Br.yes rfl (kg h1 l1)
  | false =>
    obtain ⟨h40, h30⟩ := hb rfl
    refine Br.no rfl (S_lNew (fun hbad => ⟨_, _, rfl, ?_⟩) fun a w ea ew a1 a16 w1' w8 h2 p B C sp l2 A np nB => ⟨_, _, rfl, ?_⟩)
    · refine S_xNew (fun _ => ⟨_, _, rfl, Br.no rfl (Br.no rfl ?_)⟩) fun n w en ew _ _ _ _ => absurd ⟨by omega, by omega, by omega, by omega⟩ hbad
      refine L_law08_LedgerDoes_0r _ _ _ _ _ _ _ _ _ ?_
      unfold L_law08_LedgerDoes_0T
      exact Br.no rfl (kg h1 l1)
    · refine S_xNew (fun hbad => absurd ⟨by omega, by omega, by omega, by omega⟩ hbad) fun a' w' ea' ew' _ _ _ _ h3 g l3 Xg gf => ⟨_, _, rfl, Br.no rfl (Br.no rfl ?_)⟩
      have : a' = a := by omega
      subst this
      have : w' = w := by omega
      subst this
      have A3 := A.le l3
      have hn : (newG a' w').M.length = a' := by unfold newG; rw [List.length_replicate]
      have nd : ∀ y, (∃ xs, At h2 y xs) → g.D a' y = false := fun y ⟨xs, a⟩ => by
        cases hd : g.D a' y with
        | false => rfl
        | true => exact (a.ne (gf y hd) rfl).elim
      rw [ew]
      exact ldoes_0 (h0 := h1) (fun h' l' => kg h' (Heap.le_trans l1 l')) (X.le l1) hl h40 hI h30 np n 0 h3 B C sp g _ (by omega) (Heap.le_trans l2 l3) nB A3 (newG_ok a1 a16 w1' w8) Xg (fun y hy => none_of_le l2 (gf y hy)) (nd p ⟨_, A.ap⟩) (nd B ⟨_, A.ab⟩) hn rfl
end Go.Proofs.Ytkcogdmddhkldaa
