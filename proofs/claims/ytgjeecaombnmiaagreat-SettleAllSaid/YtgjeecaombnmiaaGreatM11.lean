import Derived.Test.YtgjeecaombnmiaaGreatM10
import Derived.Test.YtgjeecaombnmiaaGreatM09
import Derived.Test.YtgjeecaombnmiaaGreatM08
/- A ledger, read from its bytes. -/
namespace Go.Proofs.YtgjeecaombnmiaaGreat
open Go Go.Sy Go.Value
set_option linter.unusedVariables false
set_option linter.unusedSimpArgs false

theorem qL4 : ∀ (ws : List Value) (c : List Value) (o : Nat) (w : Value), qh c o (ws ++ [w]) = qh (qh c o ws) (o + ws.length) [w]
  | [], c, o, w => by simp [qh]
  | a :: ws, c, o, w => by
    show qh (setT c o a) (o + 1) (ws ++ [w]) = qh (qh (setT c o a) (o + 1) ws) (o + (ws.length + 1)) [w]
    rw [qL4 ws, show o + 1 + ws.length = o + (ws.length + 1) by omega]
theorem qNc : ∀ (ws : List Value) (c : List Value) (o : Nat), (qh c o ws).length = c.length
  | [], c, o => rfl
  | a :: ws, c, o => by rw [qh, qNc ws, qBR, List.length_set]
theorem qVW {row : List Int} {w : Nat} (h8 : row.length = 8) (hw : w ≤ 8) (z : ∀ c, w ≤ c → row.getD c 0 = 0) : row = row.take w ++ List.replicate (8 - w) 0 := by
  refine List.ext_getElem (by rw [List.length_append, List.length_take, List.length_replicate]; omega) fun i h1 h2 => ?_
  by_cases hi : i < w
  · rw [List.getElem_append_left (by rw [List.length_take]; omega), List.getElem_take]
  · rw [List.getElem_append_right (by rw [List.length_take]; omega), List.getElem_replicate]
    have := z i (by omega)
    rw [List.getD_eq_getElem?_getD, List.getElem?_eq_getElem h1] at this
    exact this
theorem qNg {row : List Int} {w : Nat} {pre post : List Value} (h8 : row.length = 8) (hw : w ≤ 8) (z : ∀ c, w ≤ c → row.getD c 0 = 0) :
    qh (pre ++ (qK .i64 (List.replicate 8 0) ++ post)) pre.length (qK .i64 (row.take w)) = pre ++ (qK .i64 row ++ post) := by
  have hl : (qK .i64 (row.take w)).length = w := by rw [qL, List.length_take]; omega
  rw [qGo _ _ _ (by rw [hl, List.length_append, qL, List.length_replicate]; omega), hl, List.append_assoc]
  congr 1
  have e : qK .i64 row = qK .i64 (row.take w) ++ qK .i64 (List.replicate (8 - w) 0) := by rw [← qAI, ← qVW h8 hw z]
  rw [e, List.append_assoc]
  congr 1
  rw [List.drop_append_of_le_length (by rw [qL, List.length_replicate]; omega)]
  congr 1
  have e2 : List.replicate 8 (0 : Int) = List.replicate w 0 ++ List.replicate (8 - w) 0 := by rw [List.replicate_append_replicate]; congr 1; omega
  rw [e2, qAI, List.drop_left' (by rw [qL, List.length_replicate])]
section
variable {h0 : Heap} {K : Value → Heap → Prop}
theorem qU2 {r : Option Addr} {t2 : Nat} {cur w v : Int} {bs : List Int} {q : Option Addr} {qc : Nat} {h : Heap} {N : Nat} (hN : bs.length = N) (hq : N ≤ 8) (hb : bytes bs) (I : rdL h q (u8V bs))
    (k : qDc r t2 cur v w cur q N qc (N : Int) (N : Int) h K) : ∀ (m j : Nat) (n : Int), m + j = N → qOt n (bs.drop j) = v → qDc r t2 cur n w cur q N qc (N : Int) (j : Int) h K := by
  intro m
  induction m with
  | zero =>
    intro j n hj e
    rw [List.drop_eq_nil_of_le (by omega)] at e
    have e : n = v := e
    have ej : j = N := by omega
    subst e ej
    exact k
  | succ m ih =>
    intro j n hj e
    refine qIH _ _ _ _ _ _ _ _ _ _ _ _ _ ?_
    unfold qFp
    have hx : bs[j]? = some bs[j] := List.getElem?_eq_getElem (by omega)
    rw [List.drop_eq_getElem_cons (by omega : j < bs.length), qOt] at e
    have hr := hb bs[j] (List.getElem_mem _)
    have I' : Ints .u8 h q bs := by
      unfold Ints
      rw [qBt, ← qFR]; exact I
    refine Br.yes (by simp; omega) (ix I' hN rfl hx ?_)
    rw [qVN hr, qO (n := (j : Int) + 1) (by omega) (by omega)]
    exact ih (j + 1) _ (by omega) e
theorem qYZ {b o t2 w : Nat} {tk : List Int} {vs : List Value} {tail : List Int} (nb : h0 b = none) (n2 : h0 t2 = none) (hne : b ≠ t2) (hw : tk.length = w) (h8 : w ≤ 8) (hI : ∀ v ∈ tk, I64 v) (ho : o + 8 ≤ vs.length) {X : Heap → Prop}
    (kX : ∀ h h' : Heap, h.le h' → X h → X h') (kb : ∀ h i ws, X h → X (h.setN b i ws)) (k2 : ∀ h i ws, X h → X (h.setN t2 i ws))
    (k : ∀ h' s', h0.le h' → At h' b (qh vs o (qK .i64 tk)) → At h' t2 [.string s'] → qA8 s' = tail → X h' → K (tuple #[]) h') :
    ∀ (m j : Nat) (h : Heap) (s : ByteArray), m + j = w → h0.le h → At h b (qh vs o (qK .i64 (tk.take j))) → At h t2 [.string s] → qA8 s = (tk.drop j).flatMap be8 ++ tail → X h →
    qEi (some ⟨b, o, none⟩) t2 (w : Int) (j : Int) h K := by
  intro m
  induction m with
  | zero =>
    intro j h s hj l0 Ab A2 e x
    refine qIN _ _ _ _ _ _ ?_
    unfold qFm
    rw [List.drop_eq_nil_of_le (by omega)] at e
    rw [List.take_of_length_le (by omega)] at Ab
    exact Br.no (by simp; omega) (Ret.mk (k h s l0 Ab A2 e x))
  | succ m ih =>
    intro j h s hj l0 Ab A2 e x
    refine qIN _ _ _ _ _ _ ?_
    unfold qFm
    have hjl : j < tk.length := by omega
    have hv := hI tk[j] (List.getElem_mem _)
    have htake := qLm hjl
    rw [List.getD_eq_getElem?_getD, List.getElem?_eq_getElem hjl] at htake
    dsimp only [Option.getD_some] at htake
    rw [List.drop_eq_getElem_cons hjl, List.flatMap_cons, List.append_assoc] at e
    generalize tk[j] = v at *
    have hsz : 8 ≤ s.size := by rw [← qGb, e, List.length_append, qF0]; omega
    have e8 : qA8 (s.extract 0 8) = be8 v := by
      rw [qHv, e, List.drop_zero, List.take_left' (qF0 v)]
    have e9 : qA8 (s.extract 8 s.size) = (tk.drop (j + 1)).flatMap be8 ++ tail := by
      rw [qHv, List.take_of_length_le (by rw [qGb]; exact Nat.le_refl _), e, List.drop_left' (qF0 v)]
    have hs8 : (s.extract 0 8).size = 8 := by rw [← qGb, e8, qF0]
    have w1 : IntKind.wrap .i64 ((j : Int) + 1) = ((j + 1 : Nat) : Int) := by rw [qO (by omega) (by omega)]; omega
    refine Br.yes (by simp; omega) ⟨s, A2.cell rfl, by omega, by omega, fun cap r hc hr => ?_⟩
    rw [hs8, e8]
    have lr : h.le (h.ins r (.cells (u8V (be8 v) ++ List.replicate (cap - 8) (Value.int IntKind.u8 0)).toArray 5 (cap, cap + 1))) := qb hr
    have rd : rdL (h.ins r (.cells (u8V (be8 v) ++ List.replicate (cap - 8) (Value.int IntKind.u8 0)).toArray 5 (cap, cap + 1))) (some ⟨r, 0, none⟩) (u8V (be8 v)) := qP3 (qI4 _ _ _ _ _)
    generalize h.ins r (.cells (u8V (be8 v) ++ List.replicate (cap - 8) (Value.int IntKind.u8 0)).toArray 5 (cap, cap + 1)) = h1 at *
    refine qU2 (N := 8) (qF0 v) (Nat.le_refl _) (qWD v) rd ?_ 8 0 0 (by omega) (qWh hv)
    refine qIH _ _ _ _ _ _ _ _ _ _ _ _ _ ?_
    unfold qFp
    have Ab1 := Ab.le lr
    have A21 := A2.le lr
    have hj8 : j < 8 := by omega
    have Ab2 := Ab1.set (o := o + j) (ws := [.int .i64 v])
    have hl : (qK .i64 (tk.take j)).length = j := by rw [qL, List.length_take]; omega
    have es : qh (qh vs o (qK .i64 (tk.take j))) (o + j) [.int .i64 v] = qh vs o (qK .i64 (tk.take (j + 1))) := by
      rw [htake, qAI]
      show _ = qh vs o (qK .i64 (tk.take j) ++ [.int .i64 v])
      rw [qL4, hl]
    rw [es] at Ab2
    have A22 := A21.set_ne (o := o + j) (ws := [.int .i64 v]) (fun e => hne e.symm)
    refine Br.no (by simp) (qB rfl (br8 hj8 ⟨Ab1.canSt (by rw [qNc]; simp; omega), s, A22.cell rfl, by omega, by omega, A22.canSt (by simp), ?_⟩))
    rw [w1]
    refine ih (j + 1) _ (s.extract 8 s.size) (by omega) (qS (qS (Heap.le_trans l0 lr) nb) n2) (Ab2.set_ne hne) A22.set e9 (k2 _ _ _ (kb _ _ _ (kX _ _ lr x)))
theorem qUe {p b o c0 t2 w : Nat} {tk : List Int} {vs : List Value} {tail : List Int} {h : Heap} {s : ByteArray} (nb : h0 b = none) (n2 : h0 t2 = none) (hne : b ≠ t2) (hw : tk.length = w) (h8 : w ≤ 8) (hI : ∀ v ∈ tk, I64 v) (ho : o + 8 ≤ vs.length) {X : Heap → Prop}
    (kX : ∀ h h' : Heap, h.le h' → X h → X h') (kb : ∀ h i ws, X h → X (h.setN b i ws)) (k2 : ∀ h i ws, X h → X (h.setN t2 i ws)) (l0 : h0.le h) (Ab : At h b vs) (A2 : At h t2 [.string s]) (e : qA8 s = tk.flatMap be8 ++ tail) (x : X h)
    (hc : h.cell c0 0 = some (.pointer (some ⟨p, 0, none⟩))) (hp : h.cell p 9 = some (.int .i64 (w : Int)))
    (k : ∀ h' s', h0.le h' → At h' b (qh vs o (qK .i64 tk)) → At h' t2 [.string s'] → qA8 s' = tail → X h' → K (tuple #[]) h') :
    CallA Tryz.prog qE5 [pointer (some ⟨b, o, none⟩), pointer (some ⟨c0, 0, none⟩), pointer (some ⟨t2, 0, none⟩)] h K := by
  refine qOA _ _ _ _ _ ?_
  unfold qJO
  exact ⟨_, hc, qB rfl ⟨_, by rw [Nat.zero_add]; exact hp, qYZ nb n2 hne hw h8 hI ho kX kb k2 k w 0 h s (by omega) l0 Ab A2 e x⟩⟩
theorem qYW {p B C r t2 : Nat} {sp : List Value} {S : Lg} (o : S.Ok) (np : h0 p = none) (nB : h0 B = none) (nr : h0 r = none) (n2 : h0 t2 = none) (hpB : p ≠ B) (hp2 : p ≠ t2) (hB2 : B ≠ t2) (hrB : r ≠ B) (hr2 : r ≠ t2)
    (k : ∀ h', h0.le h' → LedAt h' p B C sp S → At h' r [.pointer (some ⟨p, 0, none⟩)] → qEN r r t2 (S.M.length : Int) (S.M.length : Int) h' K) :
    ∀ (m i : Nat) (h : Heap) (s : ByteArray), m + i = S.M.length → h0.le h → At h p (qIg B C S) → At h B (qK .i64 (S.M.take i ++ List.replicate (S.M.length - i) (List.replicate 8 0)).flatten ++ sp) → At h r [.pointer (some ⟨p, 0, none⟩)] → At h t2 [.string s] → qA8 s = qDB S.cur (S.M.drop i) →
    qEN r r t2 (S.M.length : Int) (i : Int) h K := by
  intro m
  induction m with
  | zero =>
    intro i h s hi l0 Ap AB Ar A2 e
    have : i = S.M.length := by omega
    subst this
    rw [List.take_of_length_le (Nat.le_refl _), Nat.sub_self, List.replicate_zero, List.append_nil] at AB
    exact k h l0 ⟨Ap, AB, hpB, o.toSz⟩ Ar
  | succ m ih =>
    intro i h s hi l0 Ap AB Ar A2 e
    refine qJE _ _ _ _ _ _ _ ?_
    unfold qGf
    have hil : i < S.M.length := by omega
    have hrow := o.sh.2 S.M[i] (List.getElem_mem _)
    have hget : S.M.getD i [] = S.M[i] := by rw [List.getD_eq_getElem?_getD, List.getElem?_eq_getElem hil]; rfl
    rw [List.drop_eq_getElem_cons hil, qDB] at e
    have hz : ∀ c, S.cur ≤ c → S.M[i].getD c 0 = 0 := fun c hc => by
      have := o.z i c hc
      unfold rdM at this
      rw [hget] at this; exact this
    have hI : ∀ v ∈ S.M[i].take S.cur, I64 v := fun v hv => by
      obtain ⟨c, hc⟩ := List.getElem?_of_mem (List.mem_of_mem_take hv)
      have := o.i64 i c
      unfold rdM at this
      rw [hget, List.getD_eq_getElem?_getD, hc] at this; exact this
    have htk : S.M.take (i + 1) = S.M.take i ++ [S.M[i]] := by rw [List.take_add_one, List.getElem?_eq_getElem hil]; rfl
    have hpl : (S.M.take i).flatten.length = i * 8 := by
      rw [qE3 (fun x hx => o.sh.2 x (List.mem_of_mem_take hx)), List.length_take]
      congr 1; omega
    generalize S.M[i] = row at *
    have w1 : IntKind.wrap .i64 ((i : Int) + 1) = ((i + 1 : Nat) : Int) := by
      have := o.n16
      rw [qO (by omega) (by omega)]; omega
    have eb : qK .i64 (S.M.take i ++ List.replicate (S.M.length - i) (List.replicate 8 0)).flatten ++ sp = qK .i64 (S.M.take i).flatten ++ (qK .i64 (List.replicate 8 0) ++ (qK .i64 (List.replicate (S.M.length - (i + 1)) (List.replicate 8 (0 : Int))).flatten ++ sp)) := by
      rw [show S.M.length - i = (S.M.length - (i + 1)) + 1 by omega, List.replicate_succ, List.flatten_append, List.flatten_cons, qAI, qAI]
      simp only [List.append_assoc]
    rw [eb] at AB
    have c9 : ∀ h, At h p (qIg B C S) → h.cell p 9 = some (.int .i64 (S.cur : Int)) := fun h A => A.cell (by
      show (qK .i64 S.N ++ [.int .i64 (S.cur : Int)])[8]? = _
      rw [List.getElem?_append_right (by rw [qL, o.N8]; omega), qL, o.N8]; rfl)
    refine Br.yes (by simp; omega) ⟨_, Ar.cell rfl, qB rfl ⟨_, _, _, Ap.cell rfl, by omega, by omega, qB rfl ?_⟩⟩
    rw [Int.toNat_natCast, Nat.zero_add]
    refine qUe (vs := qK .i64 (S.M.take i).flatten ++ (qK .i64 (List.replicate 8 0) ++ (qK .i64 (List.replicate (S.M.length - (i + 1)) (List.replicate 8 (0 : Int))).flatten ++ sp))) (X := fun h => At h p (qIg B C S) ∧ At h r [.pointer (some ⟨p, 0, none⟩)]) nB n2 hB2 (w := S.cur) (tk := row.take S.cur) (by rw [List.length_take]; have := o.c8; omega) o.c8 hI (by simp only [List.length_append, qL, hpl, List.length_replicate]; omega)
      (fun h h' l x => ⟨x.1.le l, x.2.le l⟩) (fun h i ws x => ⟨x.1.set_ne hpB, x.2.set_ne hrB⟩) (fun h i ws x => ⟨x.1.set_ne hp2, x.2.set_ne hr2⟩) l0 AB A2 e ⟨Ap, Ar⟩ (Ar.cell rfl) (c9 h Ap) ?_
    intro h' s' l' AB' A2' e' x'
    refine ⟨rfl, ?_⟩
    rw [w1]
    have hpl2 : i * 8 = (qK .i64 (S.M.take i).flatten).length := by rw [qL, hpl]
    rw [hpl2, qNg hrow o.c8 hz] at AB'
    refine ih (i + 1) h' s' (by omega) l' x'.1 ?_ x'.2 A2' e'
    have : qK .i64 (S.M.take (i + 1) ++ List.replicate (S.M.length - (i + 1)) (List.replicate 8 0)).flatten ++ sp = qK .i64 (S.M.take i).flatten ++ (qK .i64 row ++ (qK .i64 (List.replicate (S.M.length - (i + 1)) (List.replicate 8 (0 : Int))).flatten ++ sp)) := by
      rw [htk]
      simp only [List.flatten_append, qAI, List.append_assoc, List.flatten_cons, List.flatten_nil, List.append_nil]
    rw [this]; exact AB'
end
section
variable {K : Value → Heap → Prop} {p B C : Nat} {sp : List Value} {S : Lg}
theorem qXl {l s : Nat} (o : S.Ok) {h0 : Heap} (A : LedAt h0 p B C sp S) (Al : At h0 l [.pointer (some ⟨p, 0, none⟩)]) {c : Nat} (hc : c < S.cur) {vs : List Value} (As : At h0 s vs) (hs : vs.length = 8)
    (k : ∀ h', h0.le h' → qEM l s (S.cur : Int) (IntKind.wrap .i64 ((c : Int) + 1)) (h'.setN s (0 + c) [.int .i64 (S.N.getD c 0)]) K) :
    ∀ (m j : Nat) (h : Heap) (of : Option Addr) (oc : Nat) (ws : List Int), m + j = S.M.length → h0.le h → OwnL h0 h [.int .i64 0] of oc (qK .i64 ws) → ws = (qCu S.M c).take j →
    qFc l s (c : Int) of ws.length oc (S.cur : Int) (c : Int) (S.M.length : Int) (j : Int) h K := by
  have n16 := o.n16
  have c8 := o.c8
  have hlc : (qCu S.M c).length = S.M.length := by unfold qCu; rw [List.length_map]
  intro m
  induction m with
  | zero =>
    intro j h of oc ws hj l0 own e
    refine qJW _ _ _ _ _ _ _ _ _ _ _ _ ?_
    unfold qGr
    rw [List.take_of_length_le (by omega)] at e
    subst e
    have hI : qLk (qCu S.M c) := fun v hv => by
      obtain ⟨i, hi⟩ := List.getElem?_of_mem hv
      have hil : i < S.M.length := by rw [← hlc]; exact (List.getElem?_eq_some_iff.1 hi).1
      rw [qHn _ _ _ hil] at hi
      rw [← Option.some.inj hi]
      exact o.i64 i c
    refine Br.no (by simp; omega) (qWM (by omega) hI h own.rd _ ⟨_, _, rfl, ?_⟩)
    rw [o.sum c, qDb (o.n64 c)]
    exact Br.no rfl (br8 (by omega) ⟨(As.le l0).canSt (by rw [hs, Int.toNat_natCast]; omega), k h l0⟩)
  | succ m ih =>
    intro j h of oc ws hj l0 own e
    refine qJW _ _ _ _ _ _ _ _ _ _ _ _ ?_
    unfold qGr
    have hwl : ws.length ≤ j := by rw [e, List.length_take]; omega
    have w1 : IntKind.wrap .i64 ((j : Int) + 1) = ((j + 1 : Nat) : Int) := by rw [qO (by omega) (by omega)]; omega
    refine Br.yes (by simp; omega) ⟨_, (Al.le l0).cell rfl, (A.le l0).get (by omega) (by omega) fun r hr => ?_⟩
    refine (own.le (qb hr)).push (by decide) (qHw l0 hr) (by omega) (n := 1) (ws := qK .i64 [rdM S.M j c]) rfl (qI4 _ _ _ _ _) (qEG _ _) (by rw [qL]; simp) ?_
    intro p' c' h' l' w' _ _
    rw [w1]
    rw [← qAI] at w'
    have := ih (j + 1) h' p' c' (ws ++ [rdM S.M j c]) (by omega) l' w' (by rw [e, List.take_add_one, qHn _ _ _ (by omega)]; rfl)
    rw [List.length_append] at this
    exact this
theorem qYK {l s : Nat} (o : S.Ok) {g : Heap} (ng : g s = none) (hsp : s ≠ p) (hsB : s ≠ B) (hsl : s ≠ l)
    (k : ∀ h', g.le h' → LedAt h' p B C sp S → K (tuple #[.pointer (some ⟨p, 0, none⟩), .int .i64 0]) h') :
    ∀ (m c : Nat) (h : Heap), m + c = S.cur → g.le h → LedAt h p B C sp S → At h l [.pointer (some ⟨p, 0, none⟩)] → At h s (qh (qK .i64 (List.replicate 8 0)) 0 (qK .i64 (S.N.take c))) → qEM l s (S.cur : Int) (c : Int) h K := by
  have c8 := o.c8
  have hN8 := o.N8
  intro m
  induction m with
  | zero =>
    intro c h hc lg A Al As
    refine qJY _ _ _ _ _ _ ?_
    unfold qGm
    have : c = S.cur := by omega
    subst this
    have ef := qNg (pre := []) (post := []) (row := S.N) o.N8 o.c8 o.zN
    simp only [List.nil_append, List.append_nil, List.length_nil] at ef
    rw [ef] at As
    have cN : ∀ i, i < 8 → h.cell s i = some (.int .i64 (S.N.getD i 0)) := fun i hi => As.cell (by
      rw [qBt, List.getElem?_map, List.getElem?_eq_getElem (by omega), List.getD_eq_getElem?_getD, List.getElem?_eq_getElem (by omega)]; rfl)
    refine Br.no (by simp) ⟨_, cN 0 (by omega), _, cN 1 (by omega), _, cN 2 (by omega), _, cN 3 (by omega), _, cN 4 (by omega), _, cN 5 (by omega), _, cN 6 (by omega), _, cN 7 (by omega), _, Al.cell rfl, qB rfl
      ⟨_, A.nos (c := 0) (by omega), _, A.nos (c := 1) (by omega), _, A.nos (c := 2) (by omega), _, A.nos (c := 3) (by omega), _, A.nos (c := 4) (by omega), _, A.nos (c := 5) (by omega), _, A.nos (c := 6) (by omega), _, A.nos (c := 7) (by omega), Br.no (by simp) ⟨_, Al.cell rfl, Ret.mk (k h lg A)⟩⟩⟩
  | succ m ih =>
    intro c h hc lg A Al As
    refine qJY _ _ _ _ _ _ ?_
    unfold qGm
    have w1 : IntKind.wrap .i64 ((c : Int) + 1) = ((c + 1 : Nat) : Int) := by rw [qO (by omega) (by omega)]; omega
    refine Br.yes (by simp; omega) ⟨_, Al.cell rfl, qB rfl ⟨_, _, _, A.rows, ?_⟩⟩
    refine qXl o A Al (by omega) As (by rw [qNc, qL, List.length_replicate]) (fun h' l' => ?_) S.M.length 0 h none 0 [] (by omega) h.le_refl (OwnL.nil _ _ _) rfl
    rw [w1]
    have lg' := Heap.le_trans lg l'
    have A' := A.le l'
    refine ih (c + 1) _ (by omega) (qS lg' ng) ⟨A'.ap.set_ne (fun e => hsp e.symm), A'.ab.set_ne (fun e => hsB e.symm), A'.ne, A'.sz⟩ ((Al.le l').set_ne (fun e => hsl e.symm)) ?_
    have := (As.le l').set (o := 0 + c) (ws := [.int .i64 (S.N.getD c 0)])
    have hl : (qK .i64 (S.N.take c)).length = c := by rw [qL, List.length_take]; omega
    have es := qL4 (qK .i64 (S.N.take c)) (qK .i64 (List.replicate 8 0)) 0 (.int .i64 (S.N.getD c 0))
    rw [hl] at es
    rw [← es] at this
    rw [qLm (by omega), qAI]
    exact this
end
theorem qXC {S : Lg} (o : S.Ok) {h : Heap} {K : Value → Heap → Prop} (k : ∀ h' p B C sp, h.le h' → LedAt h' p B C sp S → h p = none → h B = none → K (tuple #[.pointer (some ⟨p, 0, none⟩), .int .i64 0]) h') :
    CallA Tryz.prog qHs [.string (qH7 (qHO S))] h K := by
  refine qPv _ _ _ ?_
  unfold qKj
  have ht := qQK (qWj o.toSz)
  have hlen := qL8 o.toSz
  have n16 := o.n16
  have n1 := o.n1
  have c8 := o.c8
  have c1 := o.c1
  generalize qH7 (qHO S) = text at *
  have hsz : text.size = 2 + (S.M.length + 1) * (S.cur * 8) := by rw [← qGb, ht, hlen]
  obtain ⟨b0, g0, e0⟩ := qSL text (i := 0) (by omega)
  obtain ⟨b1, g1, e1⟩ := qSL text (i := 1) (by omega)
  rw [ht] at e0 e1
  have e0 : (S.M.length : Int) = (b0.toNat : Int) := Option.some.inj e0
  have e1 : (S.cur : Int) = (b1.toNat : Int) := Option.some.inj e1
  refine Br.no (by simp; omega) ⟨by omega, b0, g0, by omega, b1, g1, ?_⟩
  rw [← e0, ← e1, qO (by omega) (by omega), qO (by omega) (by omega)]
  refine qUd (fun h => absurd h (by omega)) fun n w en ew _ _ _ _ h1 p B C sp l1 A1 np nB => ⟨_, _, rfl, fun r hr => ?_⟩
  have en : n = S.M.length := by omega
  have ew : w = S.cur := by omega
  subst en ew
  have lr : h1.le (h1.ins r (.cells [Value.pointer none].toArray 33 (0, 0))) := qb hr
  have Ar0 := At.new h1 r [Value.pointer none] 33
  have hrp : r ≠ p := fun e => A1.ap.ne hr e.symm
  have hrB : r ≠ B := fun e => A1.ab.ne hr e.symm
  have nr := qJ l1 hr
  refine ⟨Ar0.canSt (by simp), Br.no (by simp) ?_⟩
  have Ar : At ((h1.ins r (.cells [Value.pointer none].toArray 33 (0, 0))).setN r 0 [.pointer (some ⟨p, 0, none⟩)]) r [.pointer (some ⟨p, 0, none⟩)] := Ar0.set
  have A2 := A1.le (qS lr hr (o := 0) (ws := [.pointer (some ⟨p, 0, none⟩)]))
  have l2 : h.le ((h1.ins r (.cells [Value.pointer none].toArray 33 (0, 0))).setN r 0 [.pointer (some ⟨p, 0, none⟩)]) := qS (Heap.le_trans l1 lr) nr
  generalize (h1.ins r (.cells [Value.pointer none].toArray 33 (0, 0))).setN r 0 [.pointer (some ⟨p, 0, none⟩)] = h2 at *
  have hML : (qAz S.M.length S.cur).M.length = S.M.length := by unfold qAz; rw [List.length_replicate]
  refine ⟨_, Ar.cell rfl, qB rfl ⟨_, A2.cur, _, Ar.cell rfl, qB rfl ⟨_, _, _, A2.rows, ?_⟩⟩⟩
  rw [hML]
  have hprod : (S.M.length + 1) * (S.cur * 8) ≤ 17 * 64 := Nat.mul_le_mul (by omega) (by omega)
  have e3 : IntKind.wrap IntKind.i64 (2 + IntKind.wrap IntKind.i64 (IntKind.wrap IntKind.i64 (8 * ((qAz S.M.length S.cur).cur : Int)) * IntKind.wrap IntKind.i64 ((S.M.length : Int) + 1))) = ((2 + (S.M.length + 1) * (S.cur * 8) : Nat) : Int) := by
    show IntKind.wrap IntKind.i64 (2 + IntKind.wrap IntKind.i64 (IntKind.wrap IntKind.i64 (8 * (S.cur : Int)) * IntKind.wrap IntKind.i64 ((S.M.length : Int) + 1))) = _
    rw [qO (n := 8 * (S.cur : Int)) (by omega) (by omega), qO (n := (S.M.length : Int) + 1) (by omega) (by omega)]
    have e4 : 8 * (S.cur : Int) * ((S.M.length : Int) + 1) = (((S.M.length + 1) * (S.cur * 8) : Nat) : Int) := by
      rw [Int.natCast_mul, Int.natCast_mul, Int.natCast_add]
      simp only [Int.natCast_one]
      rw [Int.mul_comm, Int.mul_comm 8]; rfl
    rw [e4, qO (n := (((S.M.length + 1) * (S.cur * 8) : Nat) : Int)) (by omega) (by omega), qO (by omega) (by omega)]; omega
  rw [e3, hsz]
  refine Br.no (by simp) ⟨by omega, by omega, fun t ht2 => ?_⟩
  have lt : h2.le (h2.ins t (.cells [Value.string { data := #[] }].toArray 9 (0, 0))) := qb ht2
  have At0 := At.new h2 t [Value.string { data := #[] }] 9
  have htp : p ≠ t := A2.ap.ne ht2
  have htB : B ≠ t := A2.ab.ne ht2
  have htr : r ≠ t := Ar.ne ht2
  have nt := qJ l2 ht2
  refine ⟨At0.canSt (by simp), ?_⟩
  have lt2 : h2.le ((h2.ins t (.cells [Value.string { data := #[] }].toArray 9 (0, 0))).setN t 0 [.string (text.extract 2 (2 + (S.M.length + 1) * (S.cur * 8)))]) := qS lt ht2
  have At1 : At ((h2.ins t (.cells [Value.string { data := #[] }].toArray 9 (0, 0))).setN t 0 [.string (text.extract 2 (2 + (S.M.length + 1) * (S.cur * 8)))]) t [.string (text.extract 2 (2 + (S.M.length + 1) * (S.cur * 8)))] := At0.set
  generalize (h2.ins t (.cells [Value.string { data := #[] }].toArray 9 (0, 0))).setN t 0 [.string (text.extract 2 (2 + (S.M.length + 1) * (S.cur * 8)))] = h3 at *
  have A3 := A2.le lt2
  have Ar3 := Ar.le lt2
  have l3 := Heap.le_trans l2 lt2
  have eb : qA8 (text.extract 2 (2 + (S.M.length + 1) * (S.cur * 8))) = (S.N.take S.cur).flatMap be8 ++ qDB S.cur S.M := by
    rw [qHv, ht, List.take_of_length_le (by rw [hlen]; exact Nat.le_refl _)]; rfl
  have apN : At h3 p ([Value.slice (some ⟨B, 0, none⟩) S.M.length C] ++ (qK .i64 (List.replicate 8 0) ++ [.int .i64 (S.cur : Int)])) := by
    have := A3.ap
    unfold qIg at this
    rw [hML] at this
    exact this
  have hI : ∀ v ∈ S.N.take S.cur, I64 v := fun v hv => by
    obtain ⟨c, hc⟩ := List.getElem?_of_mem (List.mem_of_mem_take hv)
    have := o.n64 c
    rw [List.getD_eq_getElem?_getD, hc] at this; exact this
  refine ⟨_, Ar3.cell rfl, qB rfl ?_⟩
  refine qUe (h0 := h) (X := fun h => At h B (qK .i64 (qAz S.M.length S.cur).M.flatten ++ sp) ∧ At h r [.pointer (some ⟨p, 0, none⟩)]) np nt htp (w := S.cur) (tk := S.N.take S.cur) (by rw [List.length_take, o.N8]; omega) c8 hI (by simp [qL])
    (fun h h' l x => ⟨x.1.le l, x.2.le l⟩) (fun h i ws x => ⟨x.1.set_ne (fun e => A3.ne e.symm), x.2.set_ne hrp⟩) (fun h i ws x => ⟨x.1.set_ne htB, x.2.set_ne htr⟩) l3 apN At1 eb ⟨A3.ab, Ar3⟩ (Ar3.cell rfl) A3.cur ?_
  intro h4 s4 l4 ap4 At4 eb4 x4
  rw [show (0 + 1 : Nat) = [Value.slice (some ⟨B, 0, none⟩) S.M.length C].length from rfl, qNg o.N8 c8 o.zN] at ap4
  refine ⟨rfl, _, x4.2.cell rfl, qB rfl ⟨_, _, _, ap4.cell rfl, ?_⟩⟩
  refine qYW (h0 := h) o np nB nr nt A3.ne htp htB hrB htr (fun h5 l5 A5 Ar5 => ?_) S.M.length 0 h4 s4 (by omega) l4 ap4 (by rw [List.take_zero, List.nil_append, Nat.sub_zero]; exact x4.1) x4.2 At4 (by rw [List.drop_zero]; exact eb4)
  refine qJE _ _ _ _ _ _ _ ?_
  unfold qGf
  refine Br.no (by simp) fun s hs => ?_
  have ls : h5.le (h5.ins s (.cells [Value.int .i64 0, .int .i64 0, .int .i64 0, .int .i64 0, .int .i64 0, .int .i64 0, .int .i64 0, .int .i64 0].toArray 85 (0, 0))) := qb hs
  have As : At (h5.ins s (.cells [Value.int .i64 0, .int .i64 0, .int .i64 0, .int .i64 0, .int .i64 0, .int .i64 0, .int .i64 0, .int .i64 0].toArray 85 (0, 0))) s (qK .i64 (List.replicate 8 0)) := At.new _ _ _ _
  have hsp : s ≠ p := fun e => A5.ap.ne hs e.symm
  have hsB : s ≠ B := fun e => A5.ab.ne hs e.symm
  have hsr : s ≠ r := fun e => Ar5.ne hs e.symm
  generalize h5.ins s (.cells [Value.int .i64 0, .int .i64 0, .int .i64 0, .int .i64 0, .int .i64 0, .int .i64 0, .int .i64 0, .int .i64 0].toArray 85 (0, 0)) = h6 at *
  refine ⟨_, (Ar5.le ls).cell rfl, qB rfl ⟨_, (A5.le ls).cur, ?_⟩⟩
  exact qYK (g := h) o (qJ l5 hs) hsp hsB hsr (fun h7 l7 A7 => k h7 p B C sp l7 A7 np nB) S.cur 0 h6 (by omega) (Heap.le_trans l5 ls) (A5.le ls) (Ar5.le ls) As
end Go.Proofs.YtgjeecaombnmiaaGreat

/- Operations on a ledger, as they are handed over, and done. -/

namespace Go.Proofs.YtgjeecaombnmiaaGreat
open Go Go.Sy Go.Value
set_option linter.unusedVariables false
set_option linter.unusedSimpArgs false

structure OpR where
  d : Int
  m : Int
  c : Int
  g : Int
  a : Int
  gv : Int
  p : Option Addr
  cp : Nat
  b : List Pst
def qYB (x : OpR) : List Value := [.int .i64 x.d, .int .i64 x.m, .int .i64 x.c, .int .i64 x.g, .int .i64 x.a, .int .i64 x.gv, .slice x.p x.b.length x.cp]
def qO3 : List OpR → List Value
  | [] => []
  | x :: r => .int .i64 x.d :: .int .i64 x.m :: .int .i64 x.c :: .int .i64 x.g :: .int .i64 x.a :: .int .i64 x.gv :: .slice x.p x.b.length x.cp :: qO3 r
theorem qKF : ∀ l, (qO3 l).length = l.length * 7
  | [] => rfl
  | x :: l => by simp only [qO3, List.length_cons, qKF l]; omega
theorem qQe : ∀ (l : List OpR) (j : Nat) (x : OpR), l[j]? = some x → ∀ i, i < 7 → (qO3 l)[j * 7 + i]? = (qYB x)[i]?
  | [], j, x, h, _, _ => by simp at h
  | y :: l, 0, x, h, i, hi => by
    simp at h
    subst h
    rw [Nat.zero_mul, Nat.zero_add]
    match i, hi with
    | 0, _ => rfl
    | 1, _ => rfl
    | 2, _ => rfl
    | 3, _ => rfl
    | 4, _ => rfl
    | 5, _ => rfl
    | 6, _ => rfl
  | y :: l, j + 1, x, h, i, hi => by
    have := qQe l j x (by simpa using h) i hi
    rw [show (j + 1) * 7 + i = j * 7 + i + 1 + 1 + 1 + 1 + 1 + 1 + 1 from by omega]
    simp only [qO3, List.getElem?_cons_succ]
    exact this
def Ops (h : Heap) (p : Option Addr) (l : List OpR) : Prop := rdL h p (qO3 l) ∧ ∀ x ∈ l, Pos h x.p x.b
theorem Ops.le {h h' : Heap} {p : Option Addr} {l : List OpR} (x : Ops h p l) (e : h.le h') : Ops h' p l := ⟨qAV e x.1, fun y hy => qAV e (x.2 y hy)⟩
theorem ox {h : Heap} {p : Option Addr} {l : List OpR} {N : Nat} (C : Ops h p l) (hn : l.length = N) {j : Nat} {i : Int} (hi : i = (j : Int)) {x : OpR} (hx : l[j]? = some x) {Q : Int → Int → Int → Int → Int → Int → Option Addr → Nat → Nat → Prop} (kk : Q x.d x.m x.c x.g x.a x.gv x.p x.b.length x.cp) :
    0 ≤ i ∧ i < (N : Int) ∧ qA p fun b o => ∃ n, h.cell b (o + i.toNat * 7) = some (.int .i64 n) ∧ ∃ n1, h.cell b (o + i.toNat * 7 + 1) = some (.int .i64 n1) ∧ ∃ n2, h.cell b (o + i.toNat * 7 + 2) = some (.int .i64 n2) ∧
      ∃ n3, h.cell b (o + i.toNat * 7 + 3) = some (.int .i64 n3) ∧ ∃ n4, h.cell b (o + i.toNat * 7 + 4) = some (.int .i64 n4) ∧ ∃ n5, h.cell b (o + i.toNat * 7 + 5) = some (.int .i64 n5) ∧ ∃ a n6 m, h.cell b (o + i.toNat * 7 + 6) = some (.slice a n6 m) ∧ Q n n1 n2 n3 n4 n5 a n6 m := by
  subst hi hn
  have hj : j < l.length := (List.getElem?_eq_some_iff.1 hx).1
  have g := qQe l j x hx
  rcases C.1 with e | ⟨b, o, e, r⟩
  · have := congrArg List.length e
    rw [qKF, List.length_nil] at this
    omega
  · rw [Int.toNat_natCast]
    have r7 : ∀ i, i < 7 → h.cell b (o + j * 7 + i) = (qYB x)[i]? := fun i hi => by rw [Nat.add_assoc, r _ (by rw [qKF]; omega), g i hi]
    exact ⟨by omega, by omega, qB e ⟨_, r7 0 (by omega), _, r7 1 (by omega), _, r7 2 (by omega), _, r7 3 (by omega), _, r7 4 (by omega), _, r7 5 (by omega), _, _, _, r7 6 (by omega), kk⟩⟩
theorem qSH (M : Mx) (i c : Nat) (v : Int) : (wrM M i c v).length = M.length := by unfold wrM; rw [List.length_set]
theorem qPC : ∀ (b : List Pst) (M : Mx), (qAK b M).2.length = M.length
  | [], M => rfl
  | p :: r, M => by
    rw [qAK]
    split
    · rfl
    · rw [qPC r, qSH]
def szB (S T : Lg) : Prop := T.M.length = S.M.length ∧ T.cur = S.cur
theorem qTl (S : Lg) (m c a : Int) : szB S (inG S m c a).2 := by
  unfold inG
  repeat' split
  all_goals first
    | exact ⟨rfl, rfl⟩
    | (exact ⟨by simp only [wnG, wrG, qSH], rfl⟩)
theorem qNX (S : Lg) (b : List Pst) : szB S (qAj S b).2 := by
  unfold qAj
  repeat' split
  all_goals first
    | exact ⟨rfl, rfl⟩
    | (exact ⟨by simp only [qPC], rfl⟩)
section
variable {h0 h : Heap} {K : Value → Heap → Prop} {p B C : Nat} {sp : List Value} {S : Lg}
end
end Go.Proofs.YtgjeecaombnmiaaGreat

/- A ledger and worths of it, side by side; operations on both. -/

namespace Go.Proofs.YtgjeecaombnmiaaGreat
open Go Go.Sy Go.Value
set_option linter.unusedVariables false
set_option linter.unusedSimpArgs false

structure LW (h0 h : Heap) (S : Lg) (p B C : Nat) (sp : List Value) (f : WoF) (T : List Cur) (N : Nat) (R : Nat → List Int) : Prop where
  LA : LedAt h p B C sp S
  X : WoX h f T N N (fun i => qDx T (R i))
  eN : S.M.length = N
  lp : f.lp = p
  base : h0.le h
  np : h0 p = none
  nB : h0 B = none
  fr : ∀ i, i < 3 + 3 * N → h0 (f.b i) = none
  dp : ∀ i, i < 3 + 3 * N → f.b i ≠ p ∧ f.b i ≠ B
  tab : qCV T = 0
  ln : ∀ i, i < N → (R i).length = T.length
  i64 : ∀ i, i < N → ∀ y ∈ R i, I64 y
section
variable {h0 h : Heap} {K : Value → Heap → Prop} {S : Lg} {p B C : Nat} {sp : List Value} {f : WoF} {T : List Cur} {N : Nat} {R : Nat → List Int}
theorem LW.le {h' : Heap} (W : LW h0 h S p B C sp f T N R) (l : h.le h') : LW h0 h' S p B C sp f T N R := { W with LA := W.LA.le l, X := W.X.le l, base := Heap.le_trans W.base l }
theorem LW.woL (W : LW h0 h S p B C sp f T N R) : ∃ g : Heap, h0.le g ∧ g.le h ∧ g p = none ∧ g B = none ∧ WoX g f T N N (fun i => qDx T (R i)) := by
  have hD : ∀ x, (x == p || x == B) = true → x = p ∨ x = B := fun x hx => by simpa using hx
  refine ⟨h.wo fun x => x == p || x == B, qJd W.base fun x hx => ?_, qMl _ _, qF3 (by simp), qF3 (by simp), { W.X with fam := W.X.fam.mv fun x xs hx a => a.wo ?_ }⟩
  · rcases hD x hx with rfl | rfl
    · exact W.np
    · exact W.nB
  · obtain ⟨i, hi, rfl⟩ := qHY hx
    have := W.dp i hi
    simp [this.1, this.2]
theorem LW.woW (W : LW h0 h S p B C sp f T N R) : ∃ g : Heap, h0.le g ∧ g.le h ∧ (∀ i, i < 3 + 3 * N → g (f.b i) = none) ∧ LedAt g p B C sp S := by
  refine ⟨h.wo (qDR (3 + 3 * N) f.b), qJd W.base fun x hx => ?_, qMl _ _, fun i hi => qF3 (qKU hi), ⟨W.LA.ap.wo (qOc fun i hi => (W.dp i hi).1), W.LA.ab.wo (qOc fun i hi => (W.dp i hi).2), W.LA.ne, W.LA.sz⟩⟩
  obtain ⟨i, hi, rfl⟩ := qHY hx
  exact W.fr i hi
theorem qYw (W : LW h0 h S p B C sp f T N R) {m c a : Int} (ha : I64 a) (k : ∀ h', LW h0 h' (inG S m c a).2 p B C sp f T N R → K (.int .i64 (inG S m c a).1) h') :
    CallA Tryz.prog qDh [pointer (some ⟨p, 0, none⟩), .int .i64 m, .int .i64 c, .int .i64 a] h K := by
  obtain ⟨g, g1, g2, g3, g4, X⟩ := W.woL
  exact qYk g2 g3 g4 W.LA ha fun h' l' A' => k h' { W with LA := A', X := X.le l', eN := (qTl S m c a).1.trans W.eN, base := Heap.le_trans g1 l' }
theorem qWX (W : LW h0 h S p B C sp f T N R) {q : Option Addr} {b : List Pst} {n qc : Nat} (Xb : Pos h0 q b) (hn : b.length = n) (hs : n ≤ 1000) (hI : ∀ x ∈ b, I64 x.m ∧ I64 x.c ∧ I64 x.a) (k : ∀ h' B' C' sp', LW h0 h' (qAj S b).2 p B' C' sp' f T N R → K (.int .i64 (qAj S b).1) h') :
    CallA Tryz.prog qB0 [pointer (some ⟨p, 0, none⟩), slice q n qc] h K := by
  obtain ⟨g, g1, g2, g3, g4, X⟩ := W.woL
  exact qSM g2 g3 g4 W.LA (qAV g1 Xb) hn hs hI fun h' B' C' sp' l' A' n' => k h' B' C' sp' { W with LA := A', X := X.le l', eN := (qNX S b).1.trans W.eN, base := Heap.le_trans g1 l', nB := qJ g1 n', dp := fun i hi => ⟨(W.dp i hi).1, (X.fam.at' i hi).ne n'⟩ }
theorem LW.wnew (W : LW h0 h S p B C sp f T N R) {g h' : Heap} {f' : WoF} {T' : List Cur} {R' : Nat → List Int} (g1 : h0.le g) (G : LedAt g p B C sp S) (l' : g.le h') (elp : f'.lp = f.lp) (fr : ∀ i, i < 3 + 3 * N → g (f'.b i) = none) (X : WoX h' f' T' N N (fun i => qDx T' (R' i)))
    (tab : qCV T' = 0) (ln : ∀ i, i < N → (R' i).length = T'.length) (i64 : ∀ i, i < N → ∀ y ∈ R' i, I64 y) : LW h0 h' S p B C sp f' T' N R' :=
  { LA := G.le l', X := X, eN := W.eN, lp := elp.trans W.lp, base := Heap.le_trans g1 l', np := W.np, nB := W.nB, fr := fun i hi => qJ g1 (fr i hi), dp := fun i hi => ⟨fun e => G.ap.ne (fr i hi) e.symm, fun e => G.ab.ne (fr i hi) e.symm⟩, tab := tab, ln := ln, i64 := i64 }
def qKz (S : Lg) (w N : Nat) (R : Nat → List Int) (m : Int) : Nat → List Int := if 0 ≤ m ∧ m < (N : Int) then qAh R m.toNat (qAq S m w) else R
theorem qU5 (T : List Cur) (R : Nat → List Int) (m : Nat) (r : List Int) : qAh (fun i => qDx T (R i)) m (qDx T r) = fun i => qDx T (qAh R m r i) := by
  funext i
  by_cases e : i = m
  · subst e; rw [qa, qa]
  · rw [qN _ _ e, qN _ _ e]
theorem qP8 (W : LW h0 h S p B C sp f T N R) {m : Int} (k : ∀ h' f', LW h0 h' S p B C sp f' T N (qKz S T.length N R m) → f'.b 0 = f.b 0 → K (tuple #[]) h') :
    CallA Tryz.prog qAR [pointer (some ⟨f.b 0, 0, none⟩), int .i64 m] h K := by
  obtain ⟨g, g1, g2, g3, G⟩ := W.woW
  refine qUm g2 g3 W.tab W.X (by rw [W.lp]; exact W.LA) fun h' f' l' e0 elp fr X => k h' f' ?_ e0
  have eX : (if 0 ≤ m ∧ m < (N : Int) then qAh (fun i => qDx T (R i)) m.toNat (qDx T (qAq S m T.length)) else fun i => qDx T (R i)) = fun i => qDx T (qKz S T.length N R m i) := by
    unfold qKz
    split
    · exact qU5 _ _ _ _
    · rfl
  rw [eX] at X
  refine W.wnew g1 G l' elp fr X W.tab (fun i hi => ?_) fun i hi => ?_
  · unfold qKz
    split
    · by_cases e : i = m.toNat
      · subst e; rw [qa, qH2]
      · rw [qN _ _ e]; exact W.ln i hi
    · exact W.ln i hi
  · unfold qKz
    split
    · by_cases e : i = m.toNat
      · subst e; rw [qa]; exact qN1 W.LA.sz _ _
      · rw [qN _ _ e]; exact W.i64 i hi
    · exact W.i64 i hi
theorem qXY {tp : Option Addr} {tn tc : Nat} (l0 : h0.le h) (CT : Curs h tp T) (hn : T.length = tn) (LA : LedAt h p B C sp S) (np : h0 p = none) (nB : h0 B = none) (hT : qCV T = 0) (hc : S.cur = tn)
    (k : ∀ h' f, LW h0 h' S p B C sp f T S.M.length (fun i => qAq S (i : Int) T.length) → K (tuple #[.pointer (some ⟨f.b 0, 0, none⟩), .int .i64 0]) h') : CallA Tryz.prog qHL [slice tp tn tc, .pointer (some ⟨p, 0, none⟩)] h K := by
  obtain ⟨_, t8, _⟩ := qCq hT
  exact qQq CT hn (by omega) LA (fun e => (e hT).elim) (fun _ e => (e hc).elim) fun _ _ h' f l' X elp fr => k h' f { LA := LA.le l', X := X, eN := rfl, lp := elp, base := Heap.le_trans l0 l', np := np, nB := nB, fr := fun i hi => qJ l0 (fr i hi), dp := fun i hi => ⟨fun e => LA.ap.ne (fr i hi) e.symm, fun e => LA.ab.ne (fr i hi) e.symm⟩, tab := hT, ln := fun i _ => qH2 _ _ _, i64 := fun i _ => qN1 LA.sz _ _ }
end
end Go.Proofs.YtgjeecaombnmiaaGreat

/- Plain laws of worths that more than one proof wants. -/
namespace Go.Proofs.YtgjeecaombnmiaaGreat
open Go Go.Sy Go.Value
set_option linter.unusedVariables false
set_option linter.unusedSimpArgs false

theorem qWU {S : Lg} (o : S.Sz) {m c a : Int} {i : Nat} (hi : (i : Int) ≠ m) (d : Int) : qEq (inG S m c a).2 (i : Int) d = qEq S (i : Int) d := by
  unfold inG
  split
  · rfl
  split
  · rfl
  split
  · rfl
  split
  · rfl
  rename_i h1 _ _ _
  have hb : qC5 S m c = true := by simpa using h1
  obtain ⟨x, y, rfl, rfl, hx, hy⟩ := qLv hb
  rw [Int.toNat_natCast, Int.toNat_natCast]
  have hc8 := o.c8
  unfold qEq
  have eh : ∀ v v', qC5 (wnG (wrG S x y v) y v') (i : Int) d = qC5 S (i : Int) d := fun v v' => by
    unfold qC5 wnG wrG
    dsimp only
    rw [(o.sh.wr hx).1]
  rw [eh]
  split
  · show rdM (wrM S.M x y _) _ _ = _
    rw [qE2 o.sh hx (by omega), if_neg (by omega)]
  · rfl
theorem qXH {S : Lg} (o : S.Sz) {m c a : Int} {i : Nat} (hi : (i : Int) ≠ m) (w : Nat) : qAq (inG S m c a).2 (i : Int) w = qAq S (i : Int) w := by
  unfold qAq
  exact List.map_congr_left fun d _ => qWU o hi _
end Go.Proofs.YtgjeecaombnmiaaGreat

/- The law TableLess: a worth is the lesser one of two straight lines. -/

namespace Go.Proofs.YtgjeecaombnmiaaGreat
open Go Go.Sy Go.Value
set_option linter.unusedVariables false
set_option linter.unusedSimpArgs false

end Go.Proofs.YtgjeecaombnmiaaGreat

/- A guard, in plain words: which tests are failed, and what each call leaves. -/
namespace Go.Proofs.YtgjeecaombnmiaaGreat
open Go Go.Sy Go.Value
set_option linter.unusedVariables false
set_option linter.unusedSimpArgs false

structure Lm where
  sh : List Int
  all : Int
def qMS (sh r : List Int) : Bool := (List.range r.length).any fun c => decide (r.getD c 0 < -(sh.getD c 0))
def qM0 (T : List Cur) (l : Lm) (r : List Int) : Int :=
  if (qBo T r).2 ≠ 0 then 7 else if (shW T r).2 ≠ 0 then 7 else (if (qBo T r).1 < 0 then 1 else 0) + (if qMS l.sh r = true then 2 else 0) + (if l.all < (shW T r).1 then 4 else 0)
def qNw (T : List Cur) (l : Lm) (row : List Int) (m : Int) (b : List Pst) : Int :=
  if qEa row.length b = true then 7 else match qBL m b row with
    | none => 7
    | some r => qM0 T l r
theorem qSv (T : List Cur) (l : Lm) (row : List Int) (m : Int) : qNw T l row m [] = qM0 T l row := rfl
/-! rows of the ledger -/
def qE4 (M : Mx) (m w : Nat) : List Int := (List.range w).map fun c => rdM M m c
theorem qEy (M : Mx) (m w : Nat) : (qE4 M m w).length = w := by unfold qE4; rw [List.length_map, List.length_range]
theorem qP5 (M : Mx) (m : Nat) {w c : Nat} (h : c < w) : (qE4 M m w).getD c 0 = rdM M m c := by
  unfold qE4
  rw [List.getD_eq_getElem?_getD, List.getElem?_map, List.getElem?_range h]; rfl
theorem qMc {S : Lg} {m w : Nat} (hm : m < S.M.length) (hw : w ≤ S.cur) : qAq S (m : Int) w = qE4 S.M m w := by
  unfold qAq qE4
  refine List.map_congr_left fun c hc => ?_
  have := List.mem_range.1 hc
  unfold qEq qC5
  rw [if_pos (decide_eq_true (by omega)), Int.toNat_natCast, Int.toNat_natCast]
theorem qSD {M : Mx} {n w i c m : Nat} {v : Int} (sh : shM M n 8) (hi : i < n) (hc : c < w) (hw : w ≤ 8) : qE4 (wrM M i c v) m w = if m = i then (qE4 M m w).set c v else qE4 M m w := by
  refine List.ext_getElem? fun j => ?_
  by_cases hj : j < w
  · have g : ∀ M, (qE4 M m w)[j]? = some (rdM M m j) := fun M => by unfold qE4; rw [List.getElem?_map, List.getElem?_range hj]; rfl
    rw [g, qE2 sh hi (by omega)]
    by_cases e : m = i
    · rw [if_pos e]
      by_cases e2 : j = c
      · subst e2
        rw [if_pos ⟨e, rfl⟩, List.getElem?_set_self (by rw [qEy]; exact hj)]
      · rw [if_neg (fun x => e2 x.2), List.getElem?_set_ne (fun x => e2 x.symm), g]
    · rw [if_neg e, if_neg (fun x => e x.1), g]
  · rw [List.getElem?_eq_none (by rw [qEy]; omega)]
    split
    · rw [List.getElem?_eq_none (by rw [List.length_set, qEy]; omega)]
    · rw [List.getElem?_eq_none (by rw [qEy]; omega)]
theorem qK8 {n w : Nat} (hw : w ≤ 8) {m : Nat} (hm : m < n) : ∀ (b : List Pst) {M : Mx}, shM M n 8 → (∀ p ∈ b, 0 ≤ p.m ∧ p.m < (n : Int) ∧ 0 ≤ p.c ∧ p.c < (w : Int)) → (qAK b M).1 = 0 → qBL (m : Int) b (qE4 M m w) = some (qE4 (qAK b M).2 m w)
  | [], M, _, _, _ => rfl
  | p :: b, M, sh, hb, e => by
    obtain ⟨h1, h2, h3, h4⟩ := hb p (List.mem_cons_self ..)
    rw [qAK] at e ⊢
    by_cases e1 : (fit (rdM M p.m.toNat p.c.toNat + p.a)).2 ≠ 0
    · rw [if_pos e1] at e; cases e
    rw [if_neg e1] at e ⊢
    have ih := qK8 hw hm b (sh.wr (c := p.c.toNat) (v := rdM M p.m.toNat p.c.toNat + p.a) (by omega : p.m.toNat < n)) (fun q hq => hb q (List.mem_cons_of_mem _ hq)) e
    rw [qSD sh (by omega) (by omega) hw] at ih
    rw [qBL]
    by_cases e2 : p.m ≠ (m : Int)
    · rw [if_pos e2]
      rw [if_neg (by omega)] at ih
      exact ih
    · have e2 : p.m = (m : Int) := Classical.byContradiction e2
      rw [if_neg (by rw [e2]; simp)]
      rw [if_pos (by omega)] at ih
      rw [e2, Int.toNat_natCast] at e1 ih ⊢
      rw [qP5 _ _ (by omega), if_neg e1]
      exact ih
/-! greater rows -/
theorem qXI {T : List Cur} (h : qCV T = 0) {c : Int} {x : Cur} (e : qJm T c = some x) : 1 ≤ x.rate ∧ x.rate ≤ 100000000 ∧ 0 ≤ x.cut ∧ x.cut ≤ 10000 := by
  unfold qJm at e
  split at e
  · exact qRH (qMp h) e
  · cases e
/-! tests failed, as bits -/
def qMH (x y z : Bool) : Int := (if x then 1 else 0) + (if y then 2 else 0) + (if z then 4 else 0)
inductive SubB : Int → Int → Prop
  | top {x : Int} (h : x = 7 ∨ ∃ a b c, x = qMH a b c) : SubB x 7
  | bits {a b c a' b' c' : Bool} (h1 : a = true → a' = true) (h2 : b = true → b' = true) (h3 : c = true → c' = true) : SubB (qMH a b c) (qMH a' b' c')
theorem SubB.zero {x : Int} (h : SubB x 0) : x = 0 := by
  generalize hy : (0 : Int) = y at h
  cases h with
  | top => omega
  | bits h1 h2 h3 =>
    rename_i a b c a' b' c'
    cases a' <;> cases b' <;> cases c' <;> simp [qMH] at hy
    cases a <;> cases b <;> cases c <;> simp_all [qMH]
end Go.Proofs.YtgjeecaombnmiaaGreat

/- A guard in memory. -/
namespace Go.Proofs.YtgjeecaombnmiaaGreat
open Go Go.Sy Go.Value
set_option linter.unusedVariables false
set_option linter.unusedSimpArgs false

/-! limits, in memory -/
structure LmV where
  a : Option Addr
  c : Nat
  l : Lm
def lmV (x : LmV) : List Value := [.slice x.a x.l.sh.length x.c, .int .i64 x.l.all]
theorem qR8 (x : LmV) : (lmV x).length = 2 := rfl
structure LmI (h : Heap) (x : LmV) : Prop where
  X : Ints .i64 h x.a x.l.sh
  i : ∀ y ∈ x.l.sh, I64 y
  all : I64 x.l.all
theorem LmI.le {h h' : Heap} {x : LmV} (o : LmI h x) (l : h.le h') : LmI h' x := { o with X := o.X.le l }
def qXs : Sh := .two (.sl (.int .i64)) (.two (.int .i64) .nil)
theorem qYq {h : Heap} {p : Option Addr} {n c : Nat} (H : (Sh.sl qXs).Has h [.slice p n c]) : n ≤ 9223372036854775807 ∧ ∃ l : List LmV, l.length = n ∧ Arr lmV h p l ∧ ∀ x ∈ l, LmI h x := by
  obtain ⟨h1, h2, l, e, A, P⟩ := qTm (enc := lmV) (P := LmI h) H fun vs hv => by
    obtain ⟨_, _, rfl, _, hsl, _, _, rfl, _, ⟨n1, rfl, w1⟩, hnil⟩ := hv
    cases hnil
    have hsl2 := hsl
    obtain ⟨q, k, cc, rfl, _⟩ := hsl
    obtain ⟨_, _, b, hb, Xb, Ib⟩ := Sh.Has.ints hsl2
    subst hb
    exact ⟨⟨q, cc, ⟨b, n1⟩⟩, rfl, Xb, fun y hy => I64.of_wf (Ib y hy), I64.of_wf w1⟩
  exact ⟨by omega, l, e, A, P⟩
theorem lx {h : Heap} {p : Option Addr} {l : List LmV} {N : Nat} (C : Arr lmV h p l) (hn : l.length = N) {j : Nat} {i : Int} (hi : i = (j : Int)) {x : LmV} (hx : l[j]? = some x) {Q : Option Addr → Nat → Nat → Int → Prop} (kk : Q x.a x.l.sh.length x.c x.l.all) :
    0 ≤ i ∧ i < (N : Int) ∧ qA p fun b o => ∃ a n m, h.cell b (o + i.toNat * 2) = some (.slice a n m) ∧ ∃ n1, h.cell b (o + i.toNat * 2 + 1) = some (.int .i64 n1) ∧ Q a n m n1 := by
  subst hi
  exact ax (w := 2) qR8 C hn rfl hx (by decide) fun b o _ g => ⟨_, _, _, g 0 (by decide), _, g 1 (by decide), kk⟩
/-! truths, in memory -/
def boV (l : List Bool) : List Value := l.map .bool
theorem qOp (l : List Bool) : (boV l).length = l.length := by unfold boV; rw [List.length_map]
theorem qWt {l : List Bool} {i : Nat} (h : i < l.length) : (boV l)[i]? = some (.bool (l.getD i false)) := by
  unfold boV
  rw [List.getElem?_map, List.getElem?_eq_getElem h, List.getD_eq_getElem?_getD, List.getElem?_eq_getElem h]; rfl
theorem qWl {l : List Bool} {i : Nat} {v : Bool} (h : i < l.length) : qh (boV l) i [.bool v] = boV (l.set i v) := by
  unfold boV
  rw [qh, qh, qBR, List.map_set]
/-! a guard, in plain words -/
structure Gu where
  S : Lg
  T : List Cur
  L : List Lm
  fl : List Bool
def Gu.row (u : Gu) (m : Nat) : List Int := qAq u.S (m : Int) u.T.length
def Gu.lim (u : Gu) (m : Nat) : Lm := u.L.getD m ⟨[], 0⟩
def Gu.fails (u : Gu) (m : Int) (b : List Pst) : Int := if 0 ≤ m ∧ m < (u.fl.length : Int) then qNw u.T (u.lim m.toNat) (u.row m.toNat) m b else 7
def Gu.flag (u : Gu) (m : Int) : Bool := decide (0 ≤ m ∧ m < (u.fl.length : Int)) && u.fl.getD m.toNat false
def Gu.setF (u : Gu) (i : Nat) (v : Bool) : Gu := { u with fl := u.fl.set i v }
structure Gu.Ok (u : Gu) : Prop where
  o : u.S.Ok
  ef : u.fl.length = u.S.M.length
  eL : u.L.length = u.S.M.length
  ec : u.S.cur = u.T.length
  tab : qCV u.T = 0
  sh : ∀ l ∈ u.L, l.sh.length = u.T.length ∧ (∀ y ∈ l.sh, 0 ≤ y ∧ I64 y) ∧ 0 ≤ l.all ∧ I64 l.all
structure GuF where
  g : Nat
  w : Nat
  lp : Option Addr
  lc : Nat
  ls : List LmV
  fb : Nat
  fc : Nat
  p : Nat
  B : Nat
  C : Nat
  sp : List Value
  f : WoF
  R : Nat → List Int
  c : Heap
  k : Heap
structure GuF.Same (x y : GuF) : Prop where
  g : y.g = x.g
  p : y.p = x.p
  B : y.B = x.B
  lp : y.lp = x.lp
  ls : y.ls = x.ls
  fb : y.fb = x.fb
  c : y.c = x.c
  k : ∀ b, b ≠ x.fb → y.k b = x.k b
theorem GuF.Same.refl (x : GuF) : x.Same x := ⟨rfl, rfl, rfl, rfl, rfl, rfl, rfl, fun _ _ => rfl⟩
theorem GuF.Same.trans {x y z : GuF} (a : x.Same y) (b : y.Same z) : x.Same z := ⟨b.g.trans a.g, b.p.trans a.p, b.B.trans a.B, b.lp.trans a.lp, b.ls.trans a.ls, b.fb.trans a.fb, b.c.trans a.c, fun y hy => (b.k y (by rw [a.fb]; exact hy)).trans (a.k y hy)⟩
structure GR (h0 h : Heap) (x : GuF) (u : Gu) : Prop where
  base : h0.le x.c
  ck : x.c.le x.k
  nf : x.c x.fb = none
  ag : At x.c x.g [.pointer (some ⟨x.p, 0, none⟩), .pointer (some ⟨x.w, 0, none⟩), .slice x.lp x.ls.length x.lc, .slice (some ⟨x.fb, 0, none⟩) u.fl.length x.fc]
  al : Arr lmV x.c x.lp x.ls
  il : ∀ y ∈ x.ls, LmI x.c y
  el : x.ls.map (·.l) = u.L
  af : At x.k x.fb (boV u.fl)
  ew : x.f.b 0 = x.w
  W : LW x.k h u.S x.p x.B x.C x.sp x.f u.T u.S.M.length x.R
  ok : u.Ok
structure GD (h0 h : Heap) (x : GuF) (u : Gu) : Prop extends GR h0 h x u where
  told : ∀ i, i < u.S.M.length → x.R i = u.row i
theorem qUX {g h : Heap} {b o : Nat} {xs ws : List Value} (l : g.le h) (a : At g b xs) : (g.setN b o ws).le (h.setN b o ws) := fun x y hx => by
  obtain ⟨T, e⟩ := a
  by_cases e2 : x = b
  · subst e2
    unfold Heap.setN at *
    rw [Nat.beq_refl, e] at hx
    rw [Nat.beq_refl, l _ _ e]
    exact hx
  · rw [q3 e2] at hx ⊢
    exact l _ _ hx
section
variable {h0 h : Heap} {S : Lg} {p B C : Nat} {sp : List Value} {f : WoF} {T : List Cur} {N : Nat} {R : Nat → List Int}
theorem LW.wr (W : LW h0 h S p B C sp f T N R) {b o : Nat} {xs ws : List Value} (a : At h0 b xs) : LW (h0.setN b o ws) (h.setN b o ws) S p B C sp f T N R := by
  have nn : ∀ {y}, h0 y = none → y ≠ b := fun e e2 => a.ne e e2.symm
  refine { W with LA := ⟨W.LA.ap.set_ne (nn W.np), W.LA.ab.set_ne (nn W.nB), W.LA.ne, W.LA.sz⟩, X := { W.X with fam := W.X.fam.mv fun x xs hx a2 => a2.set_ne ?_ }, base := qUX W.base a, np := by rw [q3 (nn W.np)]; exact W.np, nB := by rw [q3 (nn W.nB)]; exact W.nB, fr := fun i hi => by rw [q3 (nn (W.fr i hi))]; exact W.fr i hi }
  obtain ⟨i, hi, rfl⟩ := qHY hx
  exact nn (W.fr i hi)
end
section
variable {h0 h : Heap} {x : GuF} {u : Gu}
theorem GR.le {h' : Heap} (G : GR h0 h x u) (l : h.le h') : GR h0 h' x u := { G with W := G.W.le l }
theorem GR.back {h1 : Heap} (G : GR h1 h x u) (l : h0.le h1) : GR h0 h x u := { G with base := Heap.le_trans l G.base }
theorem GR.ch (G : GR h0 h x u) : x.c.le h := Heap.le_trans G.ck G.W.base
theorem GR.b (G : GR h0 h x u) : h0.le h := Heap.le_trans G.base G.ch
theorem GR.g (G : GR h0 h x u) : At h x.g [.pointer (some ⟨x.p, 0, none⟩), .pointer (some ⟨x.w, 0, none⟩), .slice x.lp x.ls.length x.lc, .slice (some ⟨x.fb, 0, none⟩) u.fl.length x.fc] := G.ag.le G.ch
theorem GR.f (G : GR h0 h x u) : At h x.fb (boV u.fl) := G.af.le G.W.base
theorem GR.n (G : GR h0 h x u) : u.fl.length ≤ 16 ∧ 1 ≤ u.fl.length ∧ x.ls.length = u.fl.length := by
  have := G.ok.o.n16
  have := G.ok.o.n1
  have := G.ok.ef
  have := G.ok.eL
  have e := congrArg List.length G.el
  rw [List.length_map] at e
  omega
theorem GR.lm (G : GR h0 h x u) {m : Nat} (hm : m < u.fl.length) : ∃ y, x.ls[m]? = some y ∧ y.l = u.lim m ∧ LmI h y ∧ y.l.sh.length = u.T.length ∧ (∀ z ∈ y.l.sh, 0 ≤ z ∧ I64 z) ∧ 0 ≤ y.l.all ∧ I64 y.l.all := by
  have hl : m < x.ls.length := by have := G.n; omega
  have hm2 : x.ls[m] ∈ x.ls := List.getElem_mem _
  have e : x.ls[m].l = u.lim m := by
    unfold Gu.lim
    rw [← G.el, List.getD_eq_getElem?_getD, List.getElem?_map, List.getElem?_eq_getElem hl]; rfl
  have hs := G.ok.sh x.ls[m].l (by rw [← G.el]; exact List.mem_map_of_mem hm2)
  exact ⟨x.ls[m], List.getElem?_eq_getElem hl, e, (G.il _ hm2).le G.ch, hs.1, hs.2.1, hs.2.2.1, hs.2.2.2⟩
theorem Gu.Ok.setF {u : Gu} (o : u.Ok) (i : Nat) (v : Bool) : (u.setF i v).Ok := { o with ef := by show (u.fl.set i v).length = _; rw [List.length_set]; exact o.ef }
theorem GR.setF (G : GR h0 h x u) {i : Nat} {v : Bool} (hi : i < u.fl.length) : GR h0 (h.setN x.fb i [.bool v]) { x with k := x.k.setN x.fb i [.bool v] } (u.setF i v) := by
  have e : (u.setF i v).fl.length = u.fl.length := by show (u.fl.set i v).length = _; rw [List.length_set]
  refine { G with ck := qS G.ck G.nf, ag := ?_, af := ?_, W := G.W.wr G.af, ok := G.ok.setF i v }
  · rw [e]; exact G.ag
  · have := G.af.set (o := i) (ws := [.bool v])
    rw [qWl hi] at this
    exact this
theorem GR.turn {h' : Heap} {u' : Gu} {B C : Nat} {sp : List Value} {f : WoF} {R : Nat → List Int} (G : GR h0 h x u) (W : LW x.k h' u'.S x.p B C sp f u'.T u'.S.M.length R) (e0 : f.b 0 = x.f.b 0) (eL : u'.L = u.L) (ef : u'.fl = u.fl) (ok : u'.Ok) : GR h0 h' { x with B := B, C := C, sp := sp, f := f, R := R } u' :=
  { G with ag := by rw [ef]; exact G.ag, el := by rw [eL]; exact G.el, af := by rw [ef]; exact G.af, ew := e0.trans G.ew, W := W, ok := ok }
theorem GD.le {h' : Heap} (G : GD h0 h x u) (l : h.le h') : GD h0 h' x u := { G with toGR := G.toGR.le l }
theorem GD.back {h1 : Heap} (G : GD h1 h x u) (l : h0.le h1) : GD h0 h x u := { G with toGR := G.toGR.back l }
theorem GD.setF (G : GD h0 h x u) {i : Nat} {v : Bool} (hi : i < u.fl.length) : GD h0 (h.setN x.fb i [.bool v]) { x with k := x.k.setN x.fb i [.bool v] } (u.setF i v) := { toGR := G.toGR.setF hi, told := G.told }
end
end Go.Proofs.YtgjeecaombnmiaaGreat
