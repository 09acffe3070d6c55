import Derived.Test.YtjihfieahkbohaaM17
import Derived.Test.YtjihfieahkbohaaM07
/- Operation by operation, both books are the same. -/
namespace Go.Proofs.Ytjihfieahkbohaa
open Go Go.Sy Go.Value
set_option linter.unusedVariables false
set_option linter.unusedSimpArgs false

theorem text_eq {s : ByteArray} {l : List Int} (h : bytesI s = l) : s = strOf l := by rw [← h, strOf_bytesI]
theorem does_0 {h : Heap} {p q n c : Nat} {op : Option Addr} {l : List Opx} (A : Arr oV h op l) (hn : l.length = n) (hd : ∀ x ∈ l, I64d x.d) :
    ∀ (m j : Nat) (H X g1 g2 : Heap) (S : Bk), m + j = 60 → PB g1 p S → RB g2 q S → SepT H X g1 g2 → h.le X →
      L_law11_DealDoes_0 op n c (some ⟨p, 0, none⟩) (some ⟨q, 0, none⟩) (j : Int) H fun v h' => v = .bool true ∧ h.le h' := by
  intro m
  induction m with
  | zero =>
    intro j H X g1 g2 S hj P R s hX
    refine L_law11_DealDoes_0r _ _ _ _ _ _ _ _ ?_
    unfold L_law11_DealDoes_0T
    exact Br.yes rfl (Br.intro (fun _ => Br.no (decide_eq_false (by omega)) (Ret.mk ⟨rfl, Heap.le_trans hX s.x⟩)) fun _ => Ret.mk ⟨rfl, Heap.le_trans hX s.x⟩)
  | succ m ih =>
    intro j H X g1 g2 S hj P R s hX
    refine L_law11_DealDoes_0r _ _ _ _ _ _ _ _ ?_
    unfold L_law11_DealDoes_0T
    refine Br.yes rfl (Br.dec (fun gn => Br.yes (decide_eq_true (by omega)) ?_) fun _ => Ret.mk ⟨rfl, Heap.le_trans hX s.x⟩)
    have hjl : j < l.length := by omega
    have hx : l[j]? = some l[j] := List.getElem?_eq_getElem hjl
    have hdx := hd _ (List.getElem_mem hjl)
    refine ax oV_len (A.le (Heap.le_trans hX s.x)) hn rfl hx (by decide) fun b o hb hcl => ?_
    generalize l[j] = x at *
    refine ⟨_, hcl 0 (by decide), _, hcl 1 (by decide), _, hcl 2 (by decide), _, hcl 3 (by decide), _, hcl 4 (by decide), _, hcl 5 (by decide), _, hcl 6 (by decide), _, hcl 7 (by decide), _, hcl 8 (by decide), _, hcl 9 (by decide), S_do (x := x) s P R hdx fun H X' g1 g2 s lx P R => ⟨_, rfl, Br.no rfl ?_⟩⟩
    have hX := Heap.le_trans hX lx
    refine S_Text (P.le s.a) fun H1 l1 => ⟨_, rfl, S_RText ((R.le s.b).le l1) fun H2 s2 l2 e2 => ⟨_, rfl, Br.no (by rw [text_eq e2]; simp) ?_⟩⟩
    have s := s.le (Heap.le_trans l1 l2)
    have in1 : ∀ (m : Nat) (H : Heap) (t : Int), t + (m : Int) = 6 → -1 ≤ t → SepT H X' g1 g2 → L_law11_DealDoes_1 op n c (some ⟨p, 0, none⟩) (some ⟨q, 0, none⟩) (j : Int) t H fun v h' => v = .bool true ∧ h.le h' := by
      intro m
      induction m with
      | zero =>
        intro H t ht _ s
        refine L_law11_DealDoes_1r _ _ _ _ _ _ _ _ _ ?_
        unfold L_law11_DealDoes_1T
        rw [w1d (by omega)]
        exact Br.no (decide_eq_false (by omega)) (ih (j + 1) H X' g1 g2 _ (by omega) P R s hX)
      | succ m ih1 =>
        intro H t ht h0 s
        refine L_law11_DealDoes_1r _ _ _ _ _ _ _ _ _ ?_
        unfold L_law11_DealDoes_1T
        have hlen : (allM (opM S x) t).length ≤ 200 := by
          rw [(all_perm P.1 t).length_eq, List.length_map]
          have := ofS_len t (opM S x).L
          have := P.1.n
          omega
        refine Br.yes (decide_eq_true (by omega)) (S_All (P.le s.a) fun H3 q3 c3 l3 I3 => ⟨_, _, _, rfl, S_RAll ((R.le s.b).le l3) fun H4 q4 c4 l4 I4 => ⟨_, _, _, rfl, ?_⟩⟩)
        refine S_SameI (I3.le l4) I4 rfl rfl (by omega) ⟨_, rfl, Br.no (by rw [decide_eq_true rfl]; rfl) ?_⟩
        rw [wrap_i64_id (n := t + 1) (by omega) (by omega)]
        exact ih1 H4 (t + 1) (by omega) (by omega) (s.le (Heap.le_trans l3 l4))
    exact in1 7 H2 (-1) (by decide) (by decide) s
theorem law11_DealDoes_ok {h : Heap} {mem cur : Int} (hm : I64 mem) (hc : I64 cur) {q : Option Addr} {n c : Nat} (H : (Sh.sl opSh).Has h [slice q n c]) :
    CallA Try.prog fn_law11_DealDoes [.int .i64 mem, .int .i64 cur, slice q n c] h fun v h' => v = .bool true ∧ h.le h' := by
  obtain ⟨_, _, l, hn, A, hd⟩ := arr_of (enc := oV) (P := fun x => I64d x.d) H fun vs hv => op_of hv
  refine F_law11_DealDoes _ _ _ _ _ _ _ ?_
  unfold F_law11_DealDoesT
  refine law11_awake_ok fun h1 l1 => ⟨_, rfl, Br.no rfl ?_⟩
  have s := (SepT.start h).le l1
  refine s.new1 (S_New (fun g H s => ⟨_, _, rfl, ?_⟩) fun g p g1 _ P H s => ⟨_, _, rfl, ?_⟩)
  · refine S_RNew (fun _ => ⟨_, _, rfl, Br.no rfl (Br.no rfl ?_)⟩) fun g2 => (g g2).elim
    refine L_law11_DealDoes_0r _ _ _ _ _ _ _ _ ?_
    unfold L_law11_DealDoes_0T
    exact Br.no rfl (Ret.mk ⟨rfl, s.x⟩)
  · refine s.new2 (S_RNew (fun g2 => (g2 g).elim) fun _ q2 g2 _ R H s => ⟨_, _, rfl, Br.no rfl (Br.no rfl ?_)⟩)
    exact does_0 A hn hd 60 0 H h g1 g2 _ rfl P R s h.le_refl
end Go.Proofs.Ytjihfieahkbohaa
