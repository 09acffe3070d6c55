/- The laws InoutKeeps and InoutClears, walked. -/
import Derived.Test.YtkcogdmddhkldaaInLaw
namespace Go.Proofs.Ytkcogdmddhkldaa
open Go Go.Sy Go.Value
set_option linter.unusedVariables false
set_option linter.unusedSimpArgs false

section
variable {h0 : Heap}
theorem keeps_3 {lp : Option Addr} {sw : List Swp} {lc : Nat} {least : Int} (hs : sw.length ≤ 1000000) (ho : ∀ x ∈ sw, okSw least x) : ∀ (m j : Nat) (h : Heap), m + j = sw.length → h0.le h → Sws h lp sw → L_law14_InoutKeeps_3 least lp sw.length lc (sw.length : Int) (j : Int) h (GoodT h0) := by
  intro m
  induction m with
  | zero =>
    intro j h hj lh W
    refine L_law14_InoutKeeps_3r _ _ _ _ _ _ _ _ ?_
    unfold L_law14_InoutKeeps_3T
    exact Br.no (by simp; omega) (goodT lh)
  | succ m ih =>
    intro j h hj lh W
    refine L_law14_InoutKeeps_3r _ _ _ _ _ _ _ _ ?_
    unfold L_law14_InoutKeeps_3T
    have hx : sw[j]? = some sw[j] := List.getElem?_eq_getElem (by omega)
    obtain ⟨o1, o2, o3, o4⟩ := ho sw[j] (List.getElem_mem _)
    generalize sw[j] = x at *
    refine Br.yes (by simp; omega) (sx W rfl rfl hx ?_)
    intro r hr
    have A0 := At.new h r [.int .i64 0, .int .i64 0, .int .i64 0, .int .i64 0, .int .i64 0] 41
    have l1 : h.le (h.ins r (.cells [.int .i64 0, .int .i64 0, .int .i64 0, .int .i64 0, .int .i64 0].toArray 41 (0, 0))) := le_ins hr
    generalize h.ins r (.cells [.int .i64 0, .int .i64 0, .int .i64 0, .int .i64 0, .int .i64 0].toArray 41 (0, 0)) = h1 at *
    refine ⟨A0.canSt (by decide), ?_⟩
    have A := A0.set (o := 0) (ws := [.int .i64 (x.fr : Int), .int .i64 (x.to : Int), .int .i64 (x.cur : Int), .int .i64 x.amount, .int .i64 x.base])
    have l2 : h.le (h1.setN r 0 [.int .i64 (x.fr : Int), .int .i64 (x.to : Int), .int .i64 (x.cur : Int), .int .i64 x.amount, .int .i64 x.base]) := le_setN l1 hr
    generalize h1.setN r 0 [.int .i64 (x.fr : Int), .int .i64 (x.to : Int), .int .i64 (x.cur : Int), .int .i64 x.amount, .int .i64 x.base] = h2 at *
    refine ⟨_, A.cell rfl, Br.no (decide_eq_false (by omega)) ⟨_, A.cell rfl, _, A.cell rfl, Br.no (by simp; omega) ⟨_, A.cell rfl, Br.no (decide_eq_false (by omega)) ⟨_, A.cell rfl, Br.no (decide_eq_false (by omega)) ?_⟩⟩⟩⟩
    rw [wrap_i64_id (by omega) (by omega)]
    exact ih (j + 1) h2 (by omega) (Heap.le_trans lh l2) (rdL_le l2 W)
theorem keeps_2 {p q lp : Option Addr} {NA NB : List NRow} {n w nc nc2 lc ln c : Nat} {least : Int} {h : Heap} (X : Nets h p NA) (Y : Nets h q NB) (hA : NA.length = n) (hB : NB.length = n) (hn : n ≤ 100) (sA : shM (mxOf NA) n w) (sB : shM (mxOf NB) n w) (hc : c < w)
    (KA : KeepA n w (mxOf NA) (mxOf NB)) (k : L_law14_InoutKeeps_1 p n nc least lp ln lc q n nc2 (w : Int) (IntKind.wrap .i64 ((c : Int) + 1)) h (GoodT h0)) :
    ∀ (m j : Nat), m + j = n → L_law14_InoutKeeps_2 p n nc least lp ln lc q n nc2 (c : Int) (w : Int) (c : Int) (n : Int) (j : Int) h (GoodT h0) := by
  intro m
  induction m with
  | zero =>
    intro j hj
    refine L_law14_InoutKeeps_2r _ _ _ _ _ _ _ _ _ _ _ _ _ _ _ _ _ ?_
    unfold L_law14_InoutKeeps_2T
    exact Br.no (by simp; omega) k
  | succ m ih =>
    intro j hj
    refine L_law14_InoutKeeps_2r _ _ _ _ _ _ _ _ _ _ _ _ _ _ _ _ _ ?_
    unfold L_law14_InoutKeeps_2T
    have hx : NA[j]? = some NA[j] := List.getElem?_eq_getElem (by omega)
    have hy : NB[j]? = some NB[j] := List.getElem?_eq_getElem (by omega)
    obtain ⟨_, vx⟩ := mxOf_row sA hx
    obtain ⟨_, vy⟩ := mxOf_row sB hy
    have rest := ih (j + 1) (by omega)
    rw [show ((j + 1 : Nat) : Int) = IntKind.wrap .i64 ((j : Int) + 1) from by rw [wrap_i64_id (by omega) (by omega)]; omega] at rest
    refine Br.yes (by simp; omega) (nx X hA rfl hx (ix (X.2 _ (List.getElem_mem _)) rfl rfl (vx c hc) (nx Y hB rfl hy (ix (Y.2 _ (List.getElem_mem _)) rfl rfl (vy c hc) ?_))))
    refine Br.dec (fun g => ?_) (fun _ => rest)
    have kp := KA.pos j c (by omega)
    have kn := KA.neg j c (by omega)
    have kz := KA.zero j c (by omega)
    generalize rdM (mxOf NA) j c = a at *
    generalize rdM (mxOf NB) j c = b at *
    by_cases a1 : 0 < a
    · have := kp a1
      exact Br.yes (decide_eq_true (by omega)) (Br.no (decide_eq_false (by omega)) (Br.no (decide_eq_false (by omega)) (Br.no (decide_eq_false (by omega)) (Br.no (by simp; omega) rest))))
    · by_cases a2 : a < 0
      · have := kn a2
        exact Br.no (decide_eq_false (by omega)) (Br.yes (decide_eq_true (by omega)) (Br.no (decide_eq_false (by omega)) (Br.no (decide_eq_false (by omega)) (Br.no (by simp; omega) rest))))
      · have := kz (by omega)
        exact Br.no (decide_eq_false (by omega)) (Br.no (decide_eq_false (by omega)) (Br.yes (by simp; omega) (Br.no (by simp; omega) rest)))
theorem keeps_1 {p q lp : Option Addr} {NA NB : List NRow} {n w nc nc2 lc : Nat} {sw : List Swp} {least : Int} (hA : NA.length = n) (hB : NB.length = n) (hn : n ≤ 100) (hw : w ≤ 100) (sA : shM (mxOf NA) n w) (sB : shM (mxOf NB) n w) (iA : ∀ i d, I64 (rdM (mxOf NA) i d))
    (KA : KeepA n w (mxOf NA) (mxOf NB)) (hsw : sw.length ≤ 1000000) (ho : ∀ x ∈ sw, okSw least x) :
    ∀ (m c : Nat) (h : Heap), m + c = w → h0.le h → Nets h p NA → Nets h q NB → Sws h lp sw → L_law14_InoutKeeps_1 p n nc least lp sw.length lc q n nc2 (w : Int) (c : Int) h (GoodT h0) := by
  intro m
  induction m with
  | zero =>
    intro c h hm lh X Y W
    refine L_law14_InoutKeeps_1r _ _ _ _ _ _ _ _ _ _ _ _ _ _ ?_
    unfold L_law14_InoutKeeps_1T
    exact Br.no (by simp; omega) (keeps_3 hsw ho sw.length 0 h (by omega) lh W)
  | succ m ih =>
    intro c h hm lh X Y W
    refine L_law14_InoutKeeps_1r _ _ _ _ _ _ _ _ _ _ _ _ _ _ ?_
    unfold L_law14_InoutKeeps_1T
    refine Br.yes (by simp; omega) (S_total X hA (by omega) sA iA (by omega) fun h1 l1 => ⟨_, _, rfl, S_total (Y.le l1) hB (by omega) sB KA.i64 (by omega) fun h2 l2 => ⟨_, _, rfl, ?_⟩⟩)
    rw [KA.sum c]
    refine Br.no (by simp) (Br.no (by simp) ?_)
    have l12 := Heap.le_trans l1 l2
    refine keeps_2 (X.le l12) (Y.le l12) hA hB hn sA sB (by omega) KA ?_ n 0 (by omega)
    rw [wrap_i64_id (by omega) (by omega)]
    exact ih (c + 1) h2 (by omega) (Heap.le_trans lh l12) (X.le l12) (Y.le l12) (rdL_le l12 W)
theorem keeps_0 {tp p q lp : Option Addr} {NA NB : List NRow} {n w tc nc nc2 lc : Nat} {sw : List Swp} {least : Int} {h : Heap} (hA : NA.length = n) (hB : NB.length = n) (hn : n ≤ 100) (hw : w ≤ 100) (sA : shM (mxOf NA) n w) (sB : shM (mxOf NB) n w) (iA : ∀ i d, I64 (rdM (mxOf NA) i d))
    (KA : KeepA n w (mxOf NA) (mxOf NB)) (hsw : sw.length ≤ 1000000) (ho : ∀ x ∈ sw, okSw least x) (lh : h0.le h) (X : Nets h p NA) (Y : Nets h q NB) (W : Sws h lp sw) :
    ∀ (m j : Nat), m + j = n → L_law14_InoutKeeps_0 tp w tc p n nc least lp sw.length lc q n nc2 (n : Int) (j : Int) h (GoodT h0) := by
  intro m
  induction m with
  | zero =>
    intro j hj
    refine L_law14_InoutKeeps_0r _ _ _ _ _ _ _ _ _ _ _ _ _ _ _ _ _ ?_
    unfold L_law14_InoutKeeps_0T
    exact Br.no (by simp; omega) (keeps_1 hA hB hn hw sA sB iA KA hsw ho w 0 h (by omega) lh X Y W)
  | succ m ih =>
    intro j hj
    refine L_law14_InoutKeeps_0r _ _ _ _ _ _ _ _ _ _ _ _ _ _ _ _ _ ?_
    unfold L_law14_InoutKeeps_0T
    have hx : NA[j]? = some NA[j] := List.getElem?_eq_getElem (by omega)
    have hy : NB[j]? = some NB[j] := List.getElem?_eq_getElem (by omega)
    obtain ⟨lx, _⟩ := mxOf_row sA hx
    obtain ⟨ly, _⟩ := mxOf_row sB hy
    refine Br.yes (by simp; omega) (nx Y hB rfl hy (nx X hA rfl hx (Br.no (by simp; omega) ?_)))
    rw [wrap_i64_id (by omega) (by omega)]
    exact ih (j + 1) (by omega)
end
theorem law14_InoutKeeps_ok {h : Heap} {tp p : Option Addr} {tn tc n nc : Nat} (HT : curSh.Has h [.slice tp tn tc]) (HN : netSh.Has h [.slice p n nc]) {least : Int} (hl64 : I64 least) :
    CallA Try.prog fn_law14_InoutKeeps [slice tp tn tc, slice p n nc, .int .i64 least] h fun v h' => v = .bool true ∧ h.le h' := by
  obtain ⟨_, l, hl, T, _⟩ := curs_of HT
  obtain ⟨hmax, NL, hN, X, hI, _⟩ := nets_of HN
  refine F_law14_InoutKeeps _ _ _ _ _ _ _ _ _ ?_
  unfold F_law14_InoutKeepsT
  refine S_law14_awake fun h1 l1 => ⟨_, rfl, Br.no rfl (S_large14 (X.le l1) hN hmax fun b hb => ⟨_, rfl, ?_⟩)⟩
  cases b with
  | true => exact Br.yes rfl (goodT l1)
  | false =>
    obtain ⟨hn40, ht20⟩ := hb rfl
    refine Br.no rfl (S_Propose (T.le l1) hl (X.le l1) hN (by omega) hI fun lp ln lc np nn nc2 e h2 l2 P => ⟨_, _, _, _, _, _, _, rfl, ?_⟩)
    have l12 := Heap.le_trans l1 l2
    obtain ⟨he, W, hln, NB, hNB, eB, Y⟩ := P
    by_cases hz : (propR l (mxOf NL) least).1 = 0
    · obtain ⟨g1, g2, g3, g4, g5⟩ := propR_ok hz
      have hM : (mxOf NL).length = n := by unfold mxOf; rw [List.length_map, hN]
      obtain ⟨t1, t8, _, _, _⟩ := tab_parts g1
      have ok := all_inb g1
      have sA := like_sh g3
      rw [hM] at sA g5
      have iA := mx_I64 hI
      obtain ⟨KA, ho, _⟩ := curL_keep (w := l.length) (fun c a ha _ => changeR_pos ok c a ha) g4 (l.length - 1) 1 _ _ (by omega) (by omega) sA iA (fun x hx => (by cases hx)) g5
      dsimp only at KA
      rw [← eB] at KA
      have hnn : nn = n := by rw [← hNB]; have := KA.sh.1; unfold mxOf at this; rw [List.length_map] at this; exact this
      subst hnn
      have hcl : (propR l (mxOf NL) least).2.2.length ≤ 1000000 := by
        have : ∀ (m c : Nat) (S S' : Mx × List Swp), curL (fun c a => changeR l (c : Int) 0 a false) least nn m c S = some S' → S'.2.length ≤ S.2.length + m * (nn * nn) := by
          intro m
          induction m with
          | zero => intro c S S' e; cases e; omega
          | succ m ih =>
            intro c S S' e
            rw [curL] at e
            split at e
            · cases e
            · rename_i T hT
              have h1 := toL_len nn 0 _ _ hT
              have h2 := ih (c + 1) T S' e
              rw [Nat.succ_mul]; omega
        have h3 := this _ _ _ _ g5
        have h4 : nn * nn ≤ 40 * 40 := Nat.mul_le_mul hn40 hn40
        have h5 : (l.length - 1) * (nn * nn) ≤ 8 * (40 * 40) := Nat.mul_le_mul (by omega) h4
        simp only [List.length_nil] at h3
        omega
      rw [he, hz]
      subst hln hl
      refine Br.no rfl (Br.no (by simp) ?_)
      exact keeps_0 hN hNB (by omega) (by omega) sA KA.sh iA KA hcl ho l12 (X.le l12) Y W nn 0 (by omega)
    · have e2 := propR_bad hz
      rw [he]
      rw [e2] at W hln eB
      have h1 : ln = 0 := hln.symm
      have h2 : nn = 0 := by rw [← hNB]; unfold mxOf at eB; have := congrArg List.length eB; rw [List.length_map] at this; exact this
      subst h1 h2
      exact Br.yes (by simpa using hz) (Br.yes rfl (goodT l12))
section
variable {h0 : Heap}
theorem clears_2 {p q : Option Addr} {NA NB : List NRow} {n w nc nc2 : Nat} {h : Heap} (lh : h0.le h) (X : Nets h p NA) (Y : Nets h q NB) (hA : NA.length = n) (hB : NB.length = n) (hn : n ≤ 100) (hw : w ≤ 100) (sA : shM (mxOf NA) n w) (eM : mxOf NB = mxOf NA) :
    ∀ (m j : Nat), m + j = n → L_law14_InoutClears_2 p n nc q n nc2 (n : Int) (j : Int) h (GoodT h0) := by
  intro m
  induction m with
  | zero =>
    intro j hj
    refine L_law14_InoutClears_2r _ _ _ _ _ _ _ _ _ _ ?_
    unfold L_law14_InoutClears_2T
    exact Br.no (by simp; omega) (goodT lh)
  | succ m ih =>
    intro j hj
    refine L_law14_InoutClears_2r _ _ _ _ _ _ _ _ _ _ ?_
    unfold L_law14_InoutClears_2T
    have hx : NA[j]? = some NA[j] := List.getElem?_eq_getElem (by omega)
    have hy : NB[j]? = some NB[j] := List.getElem?_eq_getElem (by omega)
    have ex := mx_get hx
    have ey := mx_get hy
    rw [eM, ex] at ey
    have ey := Option.some.inj ey
    obtain ⟨lx, _⟩ := mxOf_row sA hx
    refine Br.yes (by simp; omega) (nx X hA rfl hx (nx Y hB rfl hy (S_Same2 (X.2 _ (List.getElem_mem _)) (Y.2 _ (List.getElem_mem _)) rfl rfl (by omega) ⟨_, rfl, Br.no (by rw [ey]; simp) ?_⟩)))
    rw [wrap_i64_id (by omega) (by omega)]
    exact ih (j + 1) (by omega)
theorem clears_1 {tp p q : Option Addr} {NB : List NRow} {n w tc nc nc2 c : Nat} {sum f : Int} {h : Heap} (Y : Nets h q NB) (hB : NB.length = n) (hn : n ≤ 100) (hw : w ≤ 100) (sB : shM (mxOf NB) n w) (hc : c < w)
    (hz : f = 0 → sum = 0 → ∀ i, i < n → rdM (mxOf NB) i c = 0) (k : L_law14_InoutClears_0 tp w tc p n nc q n nc2 (IntKind.wrap .i64 ((c : Int) + 1)) h (GoodT h0)) :
    ∀ (m j : Nat), m + j = n → L_law14_InoutClears_1 tp w tc p n nc q n nc2 (c : Int) sum f (n : Int) (j : Int) h (GoodT h0) := by
  intro m
  induction m with
  | zero =>
    intro j hj
    refine L_law14_InoutClears_1r _ _ _ _ _ _ _ _ _ _ _ _ _ _ _ _ ?_
    unfold L_law14_InoutClears_1T
    exact Br.no (by simp; omega) k
  | succ m ih =>
    intro j hj
    refine L_law14_InoutClears_1r _ _ _ _ _ _ _ _ _ _ _ _ _ _ _ _ ?_
    unfold L_law14_InoutClears_1T
    have hy : NB[j]? = some NB[j] := List.getElem?_eq_getElem (by omega)
    obtain ⟨ly, vy⟩ := mxOf_row sB hy
    have rest := ih (j + 1) (by omega)
    rw [show ((j + 1 : Nat) : Int) = IntKind.wrap .i64 ((j : Int) + 1) from by rw [wrap_i64_id (by omega) (by omega)]; omega] at rest
    refine Br.yes (by simp; omega) (nx Y hB rfl hy (Br.yes (decide_eq_true (by omega)) (Br.intro (fun g1 => Br.intro (fun g2 => ?_) (fun _ => rest)) (fun _ => rest))))
    refine nx Y hB rfl hy (ix (Y.2 _ (List.getElem_mem _)) rfl rfl (vy c hc) (Br.no ?_ rest))
    rw [hz (by simpa using g1) (by simpa using g2) j (by omega)]; rfl
theorem clears_0 {tp p q : Option Addr} {NA NB : List NRow} {n w tc nc nc2 : Nat} {l : List Cur} (hA : NA.length = n) (hB : NB.length = n) (hn : n ≤ 16) (sA : shM (mxOf NA) n w) (iA : ∀ i d, I64 (rdM (mxOf NA) i d)) (iB : ∀ x ∈ NB, ∀ v ∈ x.l, I64 v)
    (KA : KeepA n w (mxOf NA) (mxOf NB)) (one : ∀ d, 0 < d → d < w → oneS (mxOf NB) n d) (hl : l.length = w) (g1 : tabE l = 0) :
    ∀ (m c : Nat) (h : Heap), m + c = w → 0 < c → h0.le h → Nets h p NA → Nets h q NB → Curs h tp l → L_law14_InoutClears_0 tp w tc p n nc q n nc2 (c : Int) h (GoodT h0) := by
  obtain ⟨t1, t8, _, _, _⟩ := tab_parts g1
  intro m
  induction m with
  | zero =>
    intro c h hm hc lh X Y T
    refine L_law14_InoutClears_0r _ _ _ _ _ _ _ _ _ _ _ _ ?_
    unfold L_law14_InoutClears_0T
    have hM : (mxOf NB).length = n := KA.sh.1
    have like : likeB l (mxOf NB) = false := by
      unfold likeB
      rw [List.any_eq_false]
      intro r hr
      rw [KA.sh.2 r hr, hl]; simp
    have eP : propR l (mxOf NB) 1 = (0, (mxOf NB, [])) := by
      unfold propR
      rw [if_neg (by rw [g1]; decide), if_neg (by omega), like, if_neg (by decide), hM, curL_none (w := w) one (l.length - 1) 1 (by omega) (by omega)]
    refine Br.no (by simp; omega) (S_Propose T hl Y hB (by omega) iB fun lp ln lc np nn nc3 e h2 l2 P => ⟨_, _, _, _, _, _, _, rfl, ?_⟩)
    rw [eP] at P
    obtain ⟨rfl, W, rfl, NC, hNC, eC, Z⟩ := P
    have e5 : (mxOf NC).length = (mxOf NB).length := congrArg List.length eC
    have hnn : nn = n := by rw [hM] at e5; unfold mxOf at e5; rw [List.length_map] at e5; omega
    subst hnn
    exact Br.no rfl (Br.no (by simp) (Br.no rfl (clears_2 (Heap.le_trans lh l2) (Y.le l2) Z hB hNC (by omega) (by omega) KA.sh eC nn 0 (by omega))))
  | succ m ih =>
    intro c h hm hc lh X Y T
    refine L_law14_InoutClears_0r _ _ _ _ _ _ _ _ _ _ _ _ ?_
    unfold L_law14_InoutClears_0T
    refine Br.yes (by simp; omega) (S_total X hA (by omega) sA iA (by omega) fun h1 l1 => ⟨_, _, rfl, ?_⟩)
    refine clears_1 (Y.le l1) hB (by omega) (by omega) KA.sh (by omega) (fun e1 e2 => ?_) ?_ n 0 (by omega)
    · have hs := KA.sum c
      rcases fit_cases (sumL (colM (mxOf NA) c)) with ⟨_, e⟩ | ⟨_, e⟩
      · rw [e] at e2
        exact oneS_zero KA.sh.1 (one c hc (by omega)) (by rw [hs]; exact e2)
      · rw [e] at e1; cases e1
    · rw [wrap_i64_id (by omega) (by omega)]
      exact ih (c + 1) h1 (by omega) (by omega) (Heap.le_trans lh l1) (X.le l1) (Y.le l1) (T.le l1)
end
theorem law14_InoutClears_ok {h : Heap} {tp p : Option Addr} {tn tc n nc : Nat} (HT : curSh.Has h [.slice tp tn tc]) (HN : netSh.Has h [.slice p n nc]) :
    CallA Try.prog fn_law14_InoutClears [slice tp tn tc, slice p n nc] h fun v h' => v = .bool true ∧ h.le h' := by
  obtain ⟨_, l, hl, T, _⟩ := curs_of HT
  obtain ⟨hmax, NL, hN, X, hI, _⟩ := nets_of HN
  refine F_law14_InoutClears _ _ _ _ _ _ _ _ ?_
  unfold F_law14_InoutClearsT
  refine S_law14_awake fun h1 l1 => ⟨_, rfl, Br.no rfl (S_large14 (X.le l1) hN hmax fun b hb => ⟨_, rfl, ?_⟩)⟩
  cases b with
  | true => exact Br.yes rfl (goodT l1)
  | false =>
    obtain ⟨hn40, ht20⟩ := hb rfl
    refine Br.no rfl (S_Propose (T.le l1) hl (X.le l1) hN (by omega) hI fun lp ln lc np nn nc2 e h2 l2 P => ⟨_, _, _, _, _, _, _, rfl, ?_⟩)
    have l12 := Heap.le_trans l1 l2
    obtain ⟨he, W, hln, NB, hNB, eB, Y⟩ := P
    by_cases hz : (propR l (mxOf NL) 1).1 = 0
    · obtain ⟨g1, g2, g3, g4, g5⟩ := propR_ok hz
      have hM : (mxOf NL).length = n := by unfold mxOf; rw [List.length_map, hN]
      obtain ⟨t1, t8, _, _, _⟩ := tab_parts g1
      have ok := all_inb g1
      have sA := like_sh g3
      rw [hM] at sA g5
      have iA := mx_I64 hI
      have hch : ∀ (c : Nat) (a : Int), 0 ≤ a → (changeR l (c : Int) 0 a false).2 = 0 → 0 ≤ (changeR l (c : Int) 0 a false).1 := fun c a ha _ => changeR_pos ok c a ha
      obtain ⟨KA, ho, _⟩ := curL_keep (w := l.length) hch g4 (l.length - 1) 1 _ _ (by omega) (by omega) sA iA (fun x hx => (by cases hx)) g5
      have one := curL_clear (w := l.length) hch (l.length - 1) 1 _ _ (by omega) (by omega) sA iA (fun x hx => (by cases hx)) (fun d d0 hd => absurd hd (by omega)) g5
      dsimp only at KA
      rw [← eB] at KA one
      have hnn : nn = n := by rw [← hNB]; have := KA.sh.1; unfold mxOf at this; rw [List.length_map] at this; exact this
      subst hnn
      rw [he, hz]
      subst hl
      have iB : ∀ x ∈ NB, ∀ v ∈ x.l, I64 v := fun x hx v hv => by
        obtain ⟨i, hi⟩ := List.getElem?_of_mem hx
        obtain ⟨d, hd⟩ := List.getElem?_of_mem hv
        obtain ⟨lx, vx⟩ := mxOf_row KA.sh hi
        have hd2 : d < l.length := by rw [← lx]; exact (List.getElem?_eq_some_iff.1 hd).1
        have := vx d hd2
        rw [hd] at this
        rw [Option.some.inj this]
        exact KA.i64 i d
      exact Br.no rfl (clears_0 hN hNB (by omega) sA iA iB KA one rfl g1 (l.length - 1) 1 h2 (by omega) (by omega) l12 (X.le l12) Y (T.le l12))
    · rw [he]
      exact Br.yes (by simpa using hz) (goodT l12)
end Go.Proofs.Ytkcogdmddhkldaa
