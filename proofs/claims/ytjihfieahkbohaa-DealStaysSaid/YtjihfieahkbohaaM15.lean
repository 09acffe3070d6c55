import Derived.Test.YtjihfieahkbohaaM14
import Derived.Test.YtjihfieahkbohaaM06
/- What is settled or gone stays so. -/
namespace Go.Proofs.Ytjihfieahkbohaa
open Go Go.Sy Go.Value
set_option linter.unusedVariables false
set_option linter.unusedSimpArgs false

theorem rd_insM {h : Heap} {mr : Nat} {kk vk : IntKind} {f : Int → Option Int} {o : Obj} {q : Option Addr} {vs : List Value} (M : MapF h mr kk vk f) (r : rdL h q vs) : rdL (h.ins mr o) q vs := by
  rcases r with r | ⟨b, o', e, r⟩
  · exact .inl r
  · refine .inr ⟨b, o', e, fun j hj => ?_⟩
    have hr := r j hj
    rw [List.getElem?_eq_getElem hj] at hr ⊢
    have hne : b ≠ mr := fun g => by
      obtain ⟨l, es, c, h1, _⟩ := M
      unfold Heap.cell at hr
      rw [g, h1] at hr
      cases hr
    unfold Heap.cell at hr ⊢
    unfold Heap.ins
    rw [if_neg hne]; exact hr
theorem MapN.le {h h' : Heap} {r n : Nat} (M : MapN h r n) (l : h.le h') : MapN h' r n := by
  obtain ⟨es, c, h1, h2⟩ := M
  exact ⟨es, c, l _ _ h1, h2⟩
theorem SepT.insM {H X g1 g2 : Heap} (s : SepT H X g1 g2) {mr : Nat} {kk vk : IntKind} {f : Int → Option Int} (M : MapF X mr kk vk f) (o : Obj) : SepT (H.ins mr o) (X.ins mr o) g1 g2 := by
  obtain ⟨l, es, c, h1, _⟩ := M
  refine ⟨ins_mono s.x mr o, le_insM s.a (s.xa mr _ h1), le_insM s.b (s.xb mr _ h1), fun r y e => ?_, fun r y e => ?_, s.ab⟩
  · unfold Heap.ins at e
    split at e
    · rename_i g; rw [g]; exact s.xa mr _ h1
    · exact s.xa r y e
  · unfold Heap.ins at e
    split at e
    · rename_i g; rw [g]; exact s.xb mr _ h1
    · exact s.xb r y e
section
variable {h g1 : Heap} {S T : Bk} {p mr n c : Nat} {op : Option Addr} {mem cur i : Int} (okS : S.Ok) (st : Step S T) (PT : PB g1 p T) (hmr : h mr = none)
include okS st PT hmr
theorem in_2 {s : Int} {P0 : List Int} {K : Value → Heap → Prop} (hnd : (P0 ++ allM T s).Nodup) (hl : P0.length ≤ 1000) (hla : (allM T s).length ≤ 200) {qc : Nat}
    (k : ∀ H X, SepT H X g1 nulH → h.le X → MapF X mr .i64 .i64 (kfP S T (P0 ++ allM T s)) → MapN X mr (S.L.length + newIn S (P0 ++ allM T s)) →
      L_law11_DealStays_1 mem cur op n c (some ⟨p, 0, none⟩) (some mr) i (((P0 ++ allM T s).length : Nat) : Int) (IntKind.wrap .i64 (s + 1)) H K) :
    ∀ (m j : Nat) (H X : Heap) (q : Option Addr), m + j = (allM T s).length → SepT H X g1 nulH → h.le X → MapF X mr .i64 .i64 (kfP S T (P0 ++ (allM T s).take j)) → MapN X mr (S.L.length + newIn S (P0 ++ (allM T s).take j)) → Ints .i64 H q (allM T s) →
      L_law11_DealStays_2 mem cur op n c (some ⟨p, 0, none⟩) (some mr) i ((P0.length + j : Nat) : Int) s q (allM T s).length qc (((allM T s).length : Nat) : Int) (j : Int) H K := by
  intro m
  induction m with
  | zero =>
    intro j H X q hj sp hX M N I
    refine L_law11_DealStays_2r _ _ _ _ _ _ _ _ _ _ _ _ _ _ _ _ _ ?_
    unfold L_law11_DealStays_2T
    rw [List.take_of_length_le (by omega)] at M N
    refine Br.no (by simp; omega) ?_
    have := k H X sp hX M N
    rw [List.length_append] at this
    rw [show P0.length + j = P0.length + (allM T s).length by omega]
    exact this
  | succ m ih =>
    intro j H X q hj sp hX M N I
    refine L_law11_DealStays_2r _ _ _ _ _ _ _ _ _ _ _ _ _ _ _ _ _ ?_
    unfold L_law11_DealStays_2T
    have hjl : j < (allM T s).length := by omega
    have hm : (allM T s)[j] ∈ allM T s := List.getElem_mem _
    have et : (allM T s).take (j + 1) = (allM T s).take j ++ [(allM T s)[j]] := List.take_succ_eq_append_getElem hjl
    have hv : (allM T s)[j] ∉ P0 ++ (allM T s).take j := by
      have h2 : (P0 ++ (allM T s).take (j + 1)).Nodup := by
        have e : (P0 ++ allM T s) = (P0 ++ (allM T s).take (j + 1)) ++ (allM T s).drop (j + 1) := by rw [List.append_assoc, List.take_append_drop]
        rw [e] at hnd
        exact (List.nodup_append.1 hnd).1
      rw [et, ← List.append_assoc] at h2
      intro hx
      exact (List.nodup_append.1 h2).2.2 _ hx _ (List.mem_singleton_self _) rfl
    have hsT := all_state PT.1 hm
    have hch := kf_checks okS PT.1 st hm
    have ekf : kfP S T (P0 ++ (allM T s).take j) (allM T s)[j] = stOf S (allM T s)[j] := by unfold kfP; rw [if_neg hv]
    have enew : newIn S (P0 ++ (allM T s).take (j + 1)) = newIn S (P0 ++ (allM T s).take j) + (if (stOf S (allM T s)[j]).isSome = true then 0 else 1) := by
      unfold newIn
      rw [et, ← List.append_assoc, List.filter_append, List.length_append]
      congr 1
      have hq : (stOf S (allM T s)[j]).isSome = !(posE (allM T s)[j] S.L).isNone := by
        unfold stOf
        cases hg : getE S (allM T s)[j] with
        | none => rw [getE_none.1 hg]; rfl
        | some x =>
          cases hp : posE (allM T s)[j] S.L with
          | none => rw [getE_none.2 hp] at hg; cases hg
          | some i => rfl
      rw [hq]
      cases hp : (posE (allM T s)[j] S.L).isNone with
      | true => rw [List.filter_cons_of_pos (by simpa using hp)]; rfl
      | false => rw [List.filter_cons_of_neg (by simp [hp])]; rfl
    refine Br.yes (decide_eq_true (by omega)) (ix I rfl rfl (List.getElem?_eq_getElem hjl) ?_)
    obtain ⟨_, lp, c', mr', B⟩ := PT.le sp.a
    refine S_State B ⟨_, rfl, Br.no (by rw [hsT]; simp) ?_⟩
    generalize (allM T s)[j] = v at *
    have MH := M.le sp.x
    have put : MPutA H (some mr) .i64 .i64 v s fun h => L_law11_DealStays_2 mem cur op n c (some ⟨p, 0, none⟩) (some mr) i (IntKind.wrap .i64 (((P0.length + j : Nat) : Int) + 1)) s q (allM T s).length qc (((allM T s).length : Nat) : Int) (IntKind.wrap .i64 ((j : Int) + 1)) h K := by
      refine ⟨mr, _, rfl, MH, fun o ho hc hn => ?_⟩
      have self : ∀ Y : Heap, (Y.ins mr o) mr = some o := fun Y => by unfold Heap.ins; rw [if_pos rfl]
      have M1 := ho (X.ins mr o) (self X)
      rw [kfP_snoc hsT, List.append_assoc, ← et] at M1
      have N1 := hn _ (MapN.le N sp.x) (X.ins mr o) (self X)
      rw [ekf] at N1
      have N2 : MapN (X.ins mr o) mr (S.L.length + newIn S (P0 ++ (allM T s).take (j + 1))) := by
        rw [enew]
        split at N1
        · rename_i g; rw [if_pos g]; exact N1
        · rename_i g; rw [if_neg g]; exact N1
      rw [w1d (by omega), w1d (by omega), show P0.length + j + 1 = P0.length + (j + 1) by omega]
      exact ih (j + 1) _ _ q (by omega) (sp.insM M o) (le_insM hX hmr) M1 N2 (rd_insM MH I)
    refine ⟨mr, _, rfl, MH, ?_⟩
    rw [ekf]
    have tail : MGetA H (some mr) .i64 .i64 v fun (n_4 : Int) (is : Bool) => Br (n_4 == 2) (Br (s == 1) (Ret H K (.bool false)) (MPutA H (some mr) .i64 .i64 v s fun h => L_law11_DealStays_2 mem cur op n c (some ⟨p, 0, none⟩) (some mr) i (IntKind.wrap .i64 (((P0.length + j : Nat) : Int) + 1)) s q (allM T s).length qc (((allM T s).length : Nat) : Int) (IntKind.wrap .i64 ((j : Int) + 1)) h K))
        (MPutA H (some mr) .i64 .i64 v s fun h => L_law11_DealStays_2 mem cur op n c (some ⟨p, 0, none⟩) (some mr) i (IntKind.wrap .i64 (((P0.length + j : Nat) : Int) + 1)) s q (allM T s).length qc (((allM T s).length : Nat) : Int) (IntKind.wrap .i64 ((j : Int) + 1)) h K) := by
      refine ⟨mr, _, rfl, MH, ?_⟩
      rw [ekf]
      refine Br.intro (fun g => ?_) fun g => put
      have g : (stOf S v).getD 0 = 2 := by simpa using g
      exact Br.no (by simpa using hch.2 g) put
    refine Br.dec (fun g => ?_) fun g => tail
    refine ⟨mr, _, rfl, MH, ?_⟩
    rw [ekf]
    exact Br.no (by rw [hch.1 g]; simp) tail
theorem in_1 {s : Int} {P0 : List Int} {K : Value → Heap → Prop} (hs : s ≤ 4) (hnd : (P0 ++ allM T s).Nodup) (hl : P0.length ≤ 1000) 
    (k : ∀ H X, SepT H X g1 nulH → h.le X → MapF X mr .i64 .i64 (kfP S T (P0 ++ allM T s)) → MapN X mr (S.L.length + newIn S (P0 ++ allM T s)) →
      L_law11_DealStays_1 mem cur op n c (some ⟨p, 0, none⟩) (some mr) i (((P0 ++ allM T s).length : Nat) : Int) (IntKind.wrap .i64 (s + 1)) H K) {H X : Heap}
    (sp : SepT H X g1 nulH) (hX : h.le X) (M : MapF X mr .i64 .i64 (kfP S T P0)) (N : MapN X mr (S.L.length + newIn S P0)) :
      L_law11_DealStays_1 mem cur op n c (some ⟨p, 0, none⟩) (some mr) i ((P0.length : Nat) : Int) s H K := by
  refine L_law11_DealStays_1r _ _ _ _ _ _ _ _ _ _ _ _ ?_
  unfold L_law11_DealStays_1T
  have hla : (allM T s).length ≤ 200 := by
    rw [(all_perm PT.1 s).length_eq, List.length_map]
    have := ofS_len s T.L
    have := PT.1.n
    omega
  refine Br.yes (decide_eq_true hs) (S_All (PT.le sp.a) fun H' q c' l' I => ⟨_, _, _, rfl, ?_⟩)
  exact in_2 okS st PT hmr hnd hl hla k _ 0 H' X q rfl (sp.le l') hX (by rw [List.take_zero, List.append_nil]; exact M) (by rw [List.take_zero, List.append_nil]; exact N) I
theorem in_all {K : Value → Heap → Prop}
    (k : ∀ H X, SepT H X g1 nulH → h.le X → MapF X mr .i64 .i64 (stOf T) → MapN X mr T.L.length → L_law11_DealStays_0 mem cur op n c (some ⟨p, 0, none⟩) (some mr) (IntKind.wrap .i64 (i + 1)) H K) {H X : Heap}
    (sp : SepT H X g1 nulH) (hX : h.le X) (M : MapF X mr .i64 .i64 (stOf S)) (N : MapN X mr S.L.length) :
      L_law11_DealStays_1 mem cur op n c (some ⟨p, 0, none⟩) (some mr) i 0 1 H K := by
  have nd := four4_nodup PT.1
  obtain ⟨nw, ln⟩ := new_all st PT.1
  have hT := PT.1.n
  unfold four4 at nd
  have e4 : four4 T = allM T 1 ++ allM T 2 ++ allM T 3 ++ allM T 4 := by unfold four4; simp only [List.append_assoc]
  have nd' : (allM T 1 ++ allM T 2 ++ allM T 3 ++ allM T 4).Nodup := by rw [← e4]; exact four4_nodup PT.1
  have n3 := (List.nodup_append.1 nd').1
  have n2 := (List.nodup_append.1 n3).1
  have n1 := (List.nodup_append.1 n2).1
  have hl : (allM T 1 ++ allM T 2 ++ allM T 3 ++ allM T 4).length ≤ 200 := by rw [← e4, ln]; exact hT
  simp only [List.length_append] at hl
  refine in_1 (P0 := []) okS st PT hmr (by decide) (by rw [List.nil_append]; exact n1) (by simp) (fun H X sp hX M N => ?_) sp hX (by rw [kfP_nil]; exact M) N
  rw [List.nil_append] at M N ⊢
  refine in_1 okS st PT hmr (by decide) n2 (by omega) (fun H X sp hX M N => ?_) sp hX M N
  refine in_1 okS st PT hmr (by decide) n3 (by simp only [List.length_append]; omega) (fun H X sp hX M N => ?_) sp hX M N
  refine in_1 okS st PT hmr (by decide) nd' (by simp only [List.length_append]; omega) (fun H X sp hX M N => ?_) sp hX M N
  rw [← e4] at M N ⊢
  rw [kfP_all st PT.1] at M
  rw [nw] at N
  refine L_law11_DealStays_1r _ _ _ _ _ _ _ _ _ _ _ _ ?_
  unfold L_law11_DealStays_1T
  refine Br.no (by decide) ⟨mr, _, rfl, MapN.le N sp.x, ?_⟩
  rw [ln]
  exact Br.no (by simp) (k H X sp hX M N)
end
theorem out_0 {h : Heap} {p mr n c : Nat} {op : Option Addr} {mem cur : Int} {l : List Opx} (A : Arr oV h op l) (hn : l.length = n) (hd : ∀ x ∈ l, I64d x.d) (hmr : h mr = none) :
    ∀ (m j : Nat) (H X g1 : Heap) (S : Bk), m + j = 60 → S.mem = mem → S.cur = cur → PB g1 p S → SepT H X g1 nulH → h.le X → MapF X mr .i64 .i64 (stOf S) → MapN X mr S.L.length →
      L_law11_DealStays_0 mem cur op n c (some ⟨p, 0, none⟩) (some mr) (j : Int) H fun v h' => v = .bool true ∧ h.le h' := by
  intro m
  induction m with
  | zero =>
    intro j H X g1 S hj hm hc P s hX M N
    refine L_law11_DealStays_0r _ _ _ _ _ _ _ _ _ _ ?_
    unfold L_law11_DealStays_0T
    refine Br.dec (fun g => Br.no (decide_eq_false (by omega)) ?_) fun g => ?_
    all_goals
      refine S_Text (P.le s.a) fun H' l' => ⟨_, rfl, ?_⟩
      have s := s.le l'
      have hb : bytesI (strOf (textD S)) = textD S := bytesI_strOf (textD_r _)
      have hro : ReadOK mem cur (bytesI (strOf (textD S))) := by rw [hb, ← hm, ← hc]; exact (text_read P.1).1
      have hre : readBk mem cur (bytesI (strOf (textD S))) = S := by rw [hb, ← hm, ← hc]; exact (text_read P.1).2
      refine s.new2 (S_Read (by rw [strOf_size (textD_r _), textD_length]; have := P.1.n; omega) (fun g => (g hro).elim) fun _ p2 g2 P2 H s => ⟨_, _, rfl, ?_⟩)
      rw [hre] at P2
      refine Br.yes rfl (Br.yes rfl (S_Text (P2.le s.b) fun H1 l1 => ⟨_, rfl, S_Text ((P.le s.a).le l1) fun H2 l2 => ⟨_, rfl, Br.yes (by simp) ?_⟩⟩))
      have s := s.le (Heap.le_trans l1 l2)
      refine S_All (P2.le s.b) fun H3 q3 c3 l3 I3 => ⟨_, _, _, rfl, S_All ((P.le s.a).le l3) fun H4 q4 c4 l4 I4 => ⟨_, _, _, rfl, ?_⟩⟩
      have hlen : (allM S 2).length ≤ 200 := by
        rw [(all_perm P.1 2).length_eq, List.length_map]
        have := ofS_len 2 S.L
        have := P.1.n
        omega
      refine S_SameI (I3.le l4) I4 rfl rfl (by omega) ⟨_, rfl, Ret.mk ?_⟩
      rw [decide_eq_true rfl]
      exact ⟨rfl, Heap.le_trans hX (Heap.le_trans s.x (Heap.le_trans l3 l4))⟩
  | succ m ih =>
    intro j H X g1 S hj hm hc P s hX M N
    refine L_law11_DealStays_0r _ _ _ _ _ _ _ _ _ _ ?_
    unfold L_law11_DealStays_0T
    by_cases hjn : j < n
    rotate_left
    · refine Br.no (decide_eq_false (by omega)) ?_
      refine S_Text (P.le s.a) fun H' l' => ⟨_, rfl, ?_⟩
      have s := s.le l'
      have hb : bytesI (strOf (textD S)) = textD S := bytesI_strOf (textD_r _)
      have hro : ReadOK mem cur (bytesI (strOf (textD S))) := by rw [hb, ← hm, ← hc]; exact (text_read P.1).1
      have hre : readBk mem cur (bytesI (strOf (textD S))) = S := by rw [hb, ← hm, ← hc]; exact (text_read P.1).2
      refine s.new2 (S_Read (by rw [strOf_size (textD_r _), textD_length]; have := P.1.n; omega) (fun g => (g hro).elim) fun _ p2 g2 P2 H s => ⟨_, _, rfl, ?_⟩)
      rw [hre] at P2
      refine Br.yes rfl (Br.yes rfl (S_Text (P2.le s.b) fun H1 l1 => ⟨_, rfl, S_Text ((P.le s.a).le l1) fun H2 l2 => ⟨_, rfl, Br.yes (by simp) ?_⟩⟩))
      have s := s.le (Heap.le_trans l1 l2)
      refine S_All (P2.le s.b) fun H3 q3 c3 l3 I3 => ⟨_, _, _, rfl, S_All ((P.le s.a).le l3) fun H4 q4 c4 l4 I4 => ⟨_, _, _, rfl, ?_⟩⟩
      have hlen : (allM S 2).length ≤ 200 := by
        rw [(all_perm P.1 2).length_eq, List.length_map]
        have := ofS_len 2 S.L
        have := P.1.n
        omega
      refine S_SameI (I3.le l4) I4 rfl rfl (by omega) ⟨_, rfl, Ret.mk ?_⟩
      rw [decide_eq_true rfl]
      exact ⟨rfl, Heap.le_trans hX (Heap.le_trans s.x (Heap.le_trans l3 l4))⟩
    refine Br.yes (decide_eq_true (by omega)) (Br.yes (decide_eq_true (by omega)) ?_)
    have hjl : j < l.length := by omega
    have hx : l[j]? = some l[j] := List.getElem?_eq_getElem hjl
    have hdx := hd _ (List.getElem_mem hjl)
    refine ax oV_len (A.le (Heap.le_trans hX s.x)) hn rfl hx (by decide) fun b o hb hcl => ?_
    generalize l[j] = x at *
    refine ⟨_, hcl 0 (by decide), _, hcl 1 (by decide), _, hcl 2 (by decide), _, hcl 3 (by decide), _, hcl 4 (by decide), _, hcl 5 (by decide), _, hcl 6 (by decide), _, hcl 7 (by decide), _, hcl 8 (by decide), _, hcl 9 (by decide), ?_⟩
    refine s.cp (vs := oV x) rfl fun r H1 X1 s A1 _ cs _ lx => ⟨cs, ?_⟩
    have hX := Heap.le_trans hX lx
    have M := M.le lx
    have N := MapN.le N lx
    have stp := op_step P.1 x
    have next : ∀ (g' H' : Heap), PB g' p (opM S x) → SepT H' X1 g' nulH → L_law11_DealStays_1 mem cur op n c (some ⟨p, 0, none⟩) (some mr) (j : Int) 0 1 H' fun v h' => v = .bool true ∧ h.le h' := fun g' H' P' s' =>
      in_all P.1 stp P' hmr (fun H X sp hX M N => by
        rw [w1d (by omega)]
        exact ih (j + 1) H X g' (opM S x) (by omega) (by rw [stp.mem]; exact hm) (by rw [stp.cur]; exact hc) P' sp hX M N) s' hX M N
    have B := A1.le s.x
    refine ⟨_, B.cell rfl, Br.intro (fun g => ?_) fun g => ?_⟩
    · have g : x.k = 0 := by simpa using g
      have eo : opM S x = (submitM S x.d).2.2 := by unfold opM; rw [if_pos g]
      refine ⟨_, B.cell rfl, _, B.cell rfl, _, B.cell rfl, _, B.cell rfl, _, B.cell rfl, _, B.cell rfl, _, B.cell rfl, ?_⟩
      exact s.call1 (S_Submit P (d := x.d) hdx fun g1 P' H s => ⟨_, _, rfl, next g1 H (by rw [eo]; exact P') s⟩)
    have n0 : x.k ≠ 0 := by simpa using g
    refine Br.intro (fun g => ?_) fun g => ?_
    · have g : x.k = 1 := by simpa using g
      have eo : opM S x = (rescindM S x.m x.id).2.2 := by unfold opM; rw [if_neg n0, if_pos g]
      exact ⟨_, B.cell rfl, _, B.cell rfl, s.call1 (S_Rescind P fun g1 P' H s => ⟨_, _, rfl, next g1 H (by rw [eo]; exact P') s⟩)⟩
    have n1 : x.k ≠ 1 := by simpa using g
    refine Br.intro (fun g => ?_) fun g => ?_
    · have g : x.k = 2 := by simpa using g
      have eo : opM S x = (settleM S x.id).2 := by unfold opM; rw [if_neg n0, if_neg n1, if_pos g]
      exact ⟨_, B.cell rfl, s.call1 (S_Settle P fun g1 P' H s => ⟨_, rfl, next g1 H (by rw [eo]; exact P') s⟩)⟩
    have n2 : x.k ≠ 2 := by simpa using g
    refine Br.intro (fun g => ?_) fun g => ?_
    · have g : x.k = 3 := by simpa using g
      have eo : opM S x = (removeM S x.m).2 := by unfold opM; rw [if_neg n0, if_neg n1, if_neg n2, if_pos g]
      exact ⟨_, B.cell rfl, s.call1 (S_Remove P fun g1 q' c' P' _ H s => ⟨_, _, _, rfl, next g1 H (by rw [eo]; exact P') s⟩)⟩
    have n3 : x.k ≠ 3 := by simpa using g
    have eo : opM S x = S := by unfold opM; rw [if_neg n0, if_neg n1, if_neg n2, if_neg n3]
    exact next g1 _ (by rw [eo]; exact P) s
theorem law11_DealStays_ok {h : Heap} {mem cur : Int} (hm : I64 mem) (hc : I64 cur) {q : Option Addr} {n c : Nat} (H : (Sh.sl opSh).Has h [slice q n c]) :
    CallA Try.prog fn_law11_DealStays [.int .i64 mem, .int .i64 cur, slice q n c] h fun v h' => v = .bool true ∧ h.le h' := by
  obtain ⟨_, _, l, hn, A, hd⟩ := arr_of (enc := oV) (P := fun x => I64d x.d) H fun vs hv => op_of hv
  refine F_law11_DealStays _ _ _ _ _ _ _ ?_
  unfold F_law11_DealStaysT
  refine law11_awake_ok fun h1 l1 => ⟨_, rfl, Br.no rfl ?_⟩
  have s := (SepT.start h).le l1
  refine s.new1 (S_New (fun g H s => ⟨_, _, rfl, Br.yes rfl (Ret.mk ⟨rfl, s.x⟩)⟩) fun _ p g1 _ P H s => ⟨_, _, rfl, Br.no rfl ?_⟩)
  intro mr hmr
  have hx := none_of_le s.x hmr
  have s2 := s.ins hmr (.map #[] 0)
  refine out_0 A hn hd hx 60 0 _ _ g1 _ rfl rfl rfl P s2 (le_ins hx) ?_ (MapN.new _ _)
  have e : stOf (⟨mem, cur, [], 0⟩ : Bk) = fun _ => none := by funext v; rfl
  rw [e]
  exact MapF.new _ _ _ _
end Go.Proofs.Ytjihfieahkbohaa
