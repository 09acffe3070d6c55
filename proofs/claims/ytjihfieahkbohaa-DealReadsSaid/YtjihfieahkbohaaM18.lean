import Derived.Test.YtjihfieahkbohaaM17
import Derived.Test.YtjihfieahkbohaaM07
/- The books of any bytes are the same, and go on the same. -/
namespace Go.Proofs.Ytjihfieahkbohaa
open Go Go.Sy Go.Value
set_option linter.unusedVariables false
set_option linter.unusedSimpArgs false

theorem reads_0 {h : Heap} {p q n c : Nat} {op : Option Addr} {l : List Opx} (A : Arr oV h op l) (hn : l.length = n) (hd : ∀ x ∈ l, I64d x.d) :
    ∀ (m j : Nat) (H X g1 g2 : Heap) (S : Bk), m + j = 60 → PB g1 p S → RB g2 q S → SepT H X g1 g2 → h.le X →
      L_law11_DealReads_0 op n c (some ⟨p, 0, none⟩) (some ⟨q, 0, none⟩) (j : Int) H fun v h' => v = .bool true ∧ h.le h' := by
  intro m
  induction m with
  | zero =>
    intro j H X g1 g2 S hj P R s hX
    refine L_law11_DealReads_0r _ _ _ _ _ _ _ _ ?_
    unfold L_law11_DealReads_0T
    exact Br.intro (fun _ => Br.no (decide_eq_false (by omega)) (Ret.mk ⟨rfl, Heap.le_trans hX s.x⟩)) fun _ => Ret.mk ⟨rfl, Heap.le_trans hX s.x⟩
  | succ m ih =>
    intro j H X g1 g2 S hj P R s hX
    refine L_law11_DealReads_0r _ _ _ _ _ _ _ _ ?_
    unfold L_law11_DealReads_0T
    refine Br.dec (fun gn => Br.yes (decide_eq_true (by omega)) ?_) fun _ => Ret.mk ⟨rfl, Heap.le_trans hX s.x⟩
    have hjl : j < l.length := by omega
    have hx : l[j]? = some l[j] := List.getElem?_eq_getElem hjl
    have hdx := hd _ (List.getElem_mem hjl)
    refine ax oV_len (A.le (Heap.le_trans hX s.x)) hn rfl hx (by decide) fun b o hb hcl => ?_
    generalize l[j] = x at *
    refine ⟨_, hcl 0 (by decide), _, hcl 1 (by decide), _, hcl 2 (by decide), _, hcl 3 (by decide), _, hcl 4 (by decide), _, hcl 5 (by decide), _, hcl 6 (by decide), _, hcl 7 (by decide), _, hcl 8 (by decide), _, hcl 9 (by decide), S_do (x := x) s P R hdx fun H X' g1 g2 s lx P R => ⟨_, rfl, Br.no rfl ?_⟩⟩
    have hX := Heap.le_trans hX lx
    refine S_Text (P.le s.a) fun H1 l1 => ⟨_, rfl, S_RText ((R.le s.b).le l1) fun H2 s2 l2 e2 => ⟨_, rfl, Br.no (by rw [text_eq e2]; simp) ?_⟩⟩
    have s := s.le (Heap.le_trans l1 l2)
    rw [w1d (by omega)]
    exact ih (j + 1) H2 X' g1 g2 _ (by omega) P R s hX
theorem law11_DealReads_ok {h : Heap} {text : ByteArray} (ht : text.size ≤ 9223372036854775807) {mem cur : Int} (hm : I64 mem) (hc : I64 cur) {q : Option Addr} {n c : Nat} (H : (Sh.sl opSh).Has h [slice q n c]) :
    CallA Try.prog fn_law11_DealReads [string text, .int .i64 mem, .int .i64 cur, slice q n c] h fun v h' => v = .bool true ∧ h.le h' := by
  obtain ⟨_, _, l, hn, A, hd⟩ := arr_of (enc := oV) (P := fun x => I64d x.d) H fun vs hv => op_of hv
  refine F_law11_DealReads _ _ _ _ _ _ _ _ ?_
  unfold F_law11_DealReadsT
  refine law11_awake_ok fun h1 l1 => ⟨_, rfl, Br.no rfl (Br.dec (fun _ => Ret.mk ⟨rfl, l1⟩) fun gs => ?_)⟩
  have s := (SepT.start h).le l1
  refine s.new1 (S_Read (by omega) (fun g _ H s => ⟨_, _, rfl, ?_⟩) fun g p g1 P H s => ⟨_, _, rfl, ?_⟩)
  · refine s.new2 (S_RRead (by omega) (fun _ _ H s => ⟨_, _, rfl, Br.no rfl (Br.no rfl (Br.yes rfl (Ret.mk ⟨rfl, s.x⟩)))⟩) fun g2 => (g g2).elim)
  · refine s.new2 (S_RRead (by omega) (fun g2 => (g2 g).elim) fun _ q2 g2 R H s => ⟨_, _, rfl, Br.no rfl (Br.no rfl (Br.no rfl ?_))⟩)
    have et : textD (readBk mem cur (bytesI text)) = bytesI text := (read_ok (bytesI_r text) g).2
    refine S_Text (P.le s.a) fun H1 l1 => ⟨_, rfl, Br.no (by rw [et, strOf_bytesI]; simp) (S_RText ((R.le s.b).le l1) fun H2 s2 l2 e2 => ⟨_, rfl, Br.no (by rw [text_eq e2, et, strOf_bytesI]; simp) ?_⟩)⟩
    exact reads_0 A hn hd 60 0 H2 h g1 g2 _ rfl P R (s.le (Heap.le_trans l1 l2)) h.le_refl
end Go.Proofs.Ytjihfieahkbohaa
