/- A strings.Builder: bytes are put behind it, one by one, and then it tells the text. -/
import Derived.Test.YtkcogdmddhkldaaByt
import Derived.Test.YtkcogdmddhkldaaFwOwn
namespace Go.Proofs.Ytkcogdmddhkldaa
open Go Go.Sy Go.Value
set_option linter.unusedVariables false
set_option linter.unusedSimpArgs false

/-- its bytes, in a block of their own -/
def BufT (h0 h : Heap) (q : Option Addr) (c : Nat) (bs : List Int) : Prop :=
  (bs = [] ∧ q = none ∧ c = 0) ∨ ∃ r sp, q = some ⟨r, 0, none⟩ ∧ h0 r = none ∧ h r = some (.cells (u8V bs ++ sp).toArray 5 (0, 0)) ∧ c = bs.length + sp.length
structure Bu (h0 h : Heap) (p : Nat) (bs : List Int) : Prop where
  new : h0 p = none
  ex : ∃ a q c, h p = some (.cells [.pointer a, .slice q bs.length c].toArray 157 (0, 0)) ∧ (a = none ∨ a = some ⟨p, 0, none⟩) ∧ BufT h0 h q c bs ∧ q ≠ some ⟨p, 0, none⟩
theorem Bu.start {h : Heap} {r : Nat} (hr : h r = none) : Bu h (h.ins r (.cells [.pointer none, .slice none 0 0].toArray 157 (0, 0))) r [] :=
  ⟨hr, none, none, 0, by unfold Heap.ins; rw [if_pos rfl]; rfl, .inl rfl, .inl ⟨rfl, rfl, rfl⟩, fun e => by cases e⟩
theorem Bu.le {h0 h h' : Heap} {p : Nat} {bs : List Int} (b : Bu h0 h p bs) (l : h.le h') : Bu h0 h' p bs := by
  obtain ⟨a, q, c, h1, h2, h3, h4⟩ := b.ex
  refine ⟨b.new, a, q, c, l _ _ h1, h2, ?_, h4⟩
  rcases h3 with h3 | ⟨r, sp, e1, e2, e3, e4⟩
  · exact .inl h3
  · exact .inr ⟨r, sp, e1, e2, l _ _ e3, e4⟩
/-- what was there before stays, where it is another block that is written -/
theorem Bu.other {h0 h : Heap} {p b o : Nat} {bs : List Int} {vs : List Value} (x : Bu h0 h p bs) (hb : h0 b ≠ none) : Bu h0 (h.setN b o vs) p bs := by
  obtain ⟨a, q, c, h1, h2, h3, h4⟩ := x.ex
  refine ⟨x.new, a, q, c, by rw [setN_other (fun e => hb (by rw [← e]; exact x.new))]; exact h1, h2, ?_, h4⟩
  rcases h3 with h3 | ⟨r, sp, e1, e2, e3, e4⟩
  · exact .inl h3
  · exact .inr ⟨r, sp, e1, e2, by rw [setN_other (fun e => hb (by rw [← e]; exact e2))]; exact e3, e4⟩
theorem lies_bu : liesAt Try.prog Try.prog.depth 157 ([Value.pointer none, .slice none 0 0].toArray.size / Try.prog.cellsOf 157) 0 157 1 = true := by kernel_rfl
theorem depth_pos : ∃ d, Try.prog.depth = d + 1 := ⟨Try.prog.depth - 1, by kernel_rfl⟩
theorem lies_u8 {N m : Nat} (h : m ≤ N) : liesAt Try.prog Try.prog.depth 5 (N / Try.prog.cellsOf 5) 0 5 m = true := by
  have e1 : Try.prog.cellsOf 5 = 1 := by kernel_rfl
  obtain ⟨d, e2⟩ := depth_pos
  rw [e1, Nat.div_one]
  have e3 : ∀ d, rowAt Try.prog (fun x => sameLayout Try.prog (d + 1) x 5) (d + 1) 5 N 0 m = true := fun d => by
    unfold rowAt
    rw [e1]
    have : sameLayout Try.prog (d + 1) 5 5 = true := by unfold sameLayout; rw [beq_self_eq_true, Bool.true_or]
    simp only [this]
    have h2 : 0 / 1 + m ≤ N := by omega
    simp [h]
  unfold liesAt
  rw [e2]
  dsimp only
  rw [e3 d, Bool.true_or]
theorem setN_get {h : Heap} {b o : Nat} {vs ws : List Value} {T : TypeId} (e : h b = some (.cells vs.toArray T (0, 0))) : h.setN b o ws b = some (.cells (setL vs o ws).toArray T (0, 0)) := by
  unfold Heap.setN
  rw [Nat.beq_refl, e]
theorem cell_of {h : Heap} {b o : Nat} {vs : List Value} {T : TypeId} {v : Value} (e : h b = some (.cells vs.toArray T (0, 0))) (g : vs[o]? = some v) : h.cell b o = some v := At.cell ⟨T, e⟩ g
theorem S_copyCheck {h0 h : Heap} {K : Value → Heap → Prop} {p : Nat} {bs : List Int} (B : Bu h0 h p bs) (l : h0.le h)
    (k : ∀ h', h0.le h' → Bu h0 h' p bs → K (tuple #[]) h') : CallA Try.prog fn_pstrings_Builder_copyCheck [pointer (some ⟨p, 0, none⟩)] h K := by
  obtain ⟨a, q, c, h1, h2, h3, h4⟩ := B.ex
  refine F_pstrings_Builder_copyCheck _ _ _ ?_
  unfold F_pstrings_Builder_copyCheckT
  refine withAddr_intro rfl ⟨a, cell_of h1 rfl, ?_⟩
  rcases h2 with rfl | rfl
  · refine Br.yes rfl (withAddr_intro rfl ⟨⟨_, _, _, h1, by simp⟩, ⟨_, _, _, h1, lies_bu⟩, withAddr_intro rfl ⟨At.canSt ⟨_, h1⟩ (by simp), Ret.mk (k _ (le_setN l B.new) ?_)⟩⟩)
    refine ⟨B.new, some ⟨p, 0, none⟩, q, c, setN_get h1, .inr rfl, ?_, h4⟩
    rcases h3 with h3 | ⟨r, sp, e1, e2, e3, e4⟩
    · exact .inl h3
    · exact .inr ⟨r, sp, e1, e2, by rw [setN_other (fun e => h4 (by rw [e1, e]))]; exact e3, e4⟩
  · exact Br.no rfl (withAddr_intro rfl ⟨_, cell_of h1 rfl, withAddr_intro rfl (withAddr_intro rfl ⟨rfl, rfl, Ret.mk (k h l B)⟩)⟩)
theorem S_WriteByte {h0 h : Heap} {K : Value → Heap → Prop} {p : Nat} {bs : List Int} {b : Int} (B : Bu h0 h p bs) (l : h0.le h) (hl : bs.length < 100000000)
    (k : ∀ h', h0.le h' → Bu h0 h' p (bs ++ [b]) → K nilIface h') : CallA Try.prog fn_pstrings_Builder_WriteByte [pointer (some ⟨p, 0, none⟩), .int .u8 b] h K := by
  refine F_pstrings_Builder_WriteByte _ _ _ _ ?_
  unfold F_pstrings_Builder_WriteByteT
  refine S_copyCheck B l fun h1 l1 B1 => ⟨rfl, ?_⟩
  obtain ⟨a, q, c, g1, g2, g3, g4⟩ := B1.ex
  refine withAddr_intro rfl ⟨q, bs.length, c, cell_of g1 rfl, fun s hs => ?_⟩
  have ne : p ≠ s := fun e => by rw [← e, g1] at hs; cases hs
  have hs0 := none_of_le l1 hs
  have g1' : (h1.ins s (.cells [.int .u8 b].toArray 5 (0, 0))) p = some (.cells [.pointer a, .slice q bs.length c].toArray 157 (0, 0)) := le_ins hs _ _ g1
  have l2 : h0.le (h1.ins s (.cells [.int .u8 b].toArray 5 (0, 0))) := le_ins2 l1 hs
  have rd : rdL (h1.ins s (.cells [.int .u8 b].toArray 5 (0, 0))) (some ⟨s, 0, none⟩) (u8V [b]) := rdL_new _ _ _ _ _
  have nil2 : ∀ x, (h1.ins s (.cells [.int .u8 b].toArray 5 (0, 0))) x = none → h1 x = none := fun x e => none_of_le (le_ins hs) e
  have g3' : BufT h0 (h1.ins s (.cells [.int .u8 b].toArray 5 (0, 0))) q c bs := by
    rcases g3 with g3 | ⟨r, sp, e1, e2, e3, e4⟩
    · exact .inl g3
    · exact .inr ⟨r, sp, e1, e2, le_ins hs _ _ e3, e4⟩
  generalize h1.ins s (.cells [.int .u8 b].toArray 5 (0, 0)) = h2 at *
  have hu : ∀ m : List Int, (u8V m).length = m.length := fun m => by rw [u8V_map, List.length_map]
  have hua : ∀ m n : List Int, u8V (m ++ n) = u8V m ++ u8V n := fun m n => by rw [u8V_map, u8V_map, u8V_map, List.map_append]
  refine ⟨by omega, u8V [b], rfl, rd, rfl, ?_⟩
  rcases g3' with ⟨rfl, rfl, rfl⟩ | ⟨r, sp, rfl, e2, e3, rfl⟩
  · refine .inr ⟨by simp, [], rfl, .inl rfl, fun cap r hc hr => ?_⟩
    have g6 : (h2.ins r (.cells ([] ++ u8V [b] ++ repL (cap - (([] : List Int).length + 1)) [.int .u8 0]).toArray 5 (0, 0))) p = some (.cells [.pointer a, .slice none 0 0].toArray 157 (0, 0)) := le_ins hr _ _ g1'
    have hpr : p ≠ r := fun e => by rw [← e, g1'] at hr; cases hr
    have l3 := le_ins2 (x := .cells ([] ++ u8V [b] ++ repL (cap - (([] : List Int).length + 1)) [.int .u8 0]).toArray 5 (0, 0)) l2 hr
    refine withAddr_intro rfl ⟨At.canSt ⟨_, g6⟩ (by simp), Ret.mk (k _ (le_setN l3 B.new) ⟨B.new, a, some ⟨r, 0, none⟩, cap, setN_get g6, g2, .inr ⟨r, repL (cap - 1) [.int .u8 0], rfl, none_of_le l2 hr, ?_, ?_⟩, ?_⟩)⟩
    · rw [setN_other (fun e => hpr e.symm)]
      unfold Heap.ins
      rw [if_pos rfl]; rfl
    · rw [repL_length]; simp at hc ⊢; omega
    · intro e; cases e; exact hpr rfl
  · have hpr : p ≠ r := fun e => g4 (by rw [e])
    by_cases hroom : bs.length + 1 ≤ bs.length + sp.length
    · refine .inl ⟨hroom, .inr ⟨r, 0, rfl, At.canSt ⟨_, e3⟩ ?_⟩, ?_⟩
      · rw [List.length_append, hu, hu]
        simp; omega
      · have e4 : (h2.setN r (0 + bs.length * 1) (u8V [b])) r = some (.cells (u8V (bs ++ [b]) ++ sp.drop 1).toArray 5 (0, 0)) := by
          rw [setN_get e3, Nat.zero_add, Nat.mul_one, ← hu bs, setL_end _ _ _ (by rw [hu]; simp; omega), hua]; rfl
        have g6 : (h2.setN r (0 + bs.length * 1) (u8V [b])) p = some (.cells [.pointer a, .slice (some ⟨r, 0, none⟩) bs.length (bs.length + sp.length)].toArray 157 (0, 0)) := by rw [setN_other hpr]; exact g1'
        have l3 : h0.le (h2.setN r (0 + bs.length * 1) (u8V [b])) := le_setN l2 e2
        show withAddr _ _
        refine withAddr_intro rfl ⟨At.canSt ⟨_, g6⟩ (by simp), Ret.mk (k _ (le_setN l3 B.new) ⟨B.new, a, some ⟨r, 0, none⟩, bs.length + sp.length, ?_, g2, .inr ⟨r, sp.drop 1, rfl, e2, ?_, ?_⟩, g4⟩)⟩
        · rw [List.length_append]
          exact setN_get g6
        · rw [setN_other (fun e => hpr e.symm)]; exact e4
        · simp; omega
    · refine .inr ⟨by omega, u8V bs, by rw [hu]; simp, At.toRd ⟨_, e3⟩, fun cap s2 hc hr => ?_⟩
      have g6 : (h2.ins s2 (.cells (u8V bs ++ u8V [b] ++ repL (cap - (bs.length + 1)) [.int .u8 0]).toArray 5 (0, 0))) p = some (.cells [.pointer a, .slice (some ⟨r, 0, none⟩) bs.length (bs.length + sp.length)].toArray 157 (0, 0)) := le_ins hr _ _ g1'
      have hps : p ≠ s2 := fun e => by rw [← e, g1'] at hr; cases hr
      have l3 := le_ins2 (x := .cells (u8V bs ++ u8V [b] ++ repL (cap - (bs.length + 1)) [.int .u8 0]).toArray 5 (0, 0)) l2 hr
      refine withAddr_intro rfl ⟨At.canSt ⟨_, g6⟩ (by simp), Ret.mk (k _ (le_setN l3 B.new) ⟨B.new, a, some ⟨s2, 0, none⟩, cap, ?_, g2, .inr ⟨s2, repL (cap - (bs.length + 1)) [.int .u8 0], rfl, none_of_le l2 hr, ?_, ?_⟩, ?_⟩)⟩
      · rw [List.length_append]
        exact setN_get g6
      · rw [setN_other (fun e => hps e.symm), hua]
        unfold Heap.ins
        rw [if_pos rfl]
      · rw [repL_length, List.length_append]; simp; omega
      · intro e; cases e; exact hps rfl
theorem S_BString {h0 h : Heap} {K : Value → Heap → Prop} {p : Nat} {bs : List Int} (B : Bu h0 h p bs) (l : h0.le h) (hl : bs.length < 100000000) (hc : bs ≠ [])
    (k : ∀ h', h0.le h' → K (string (strOf bs)) h') : CallA Try.prog fn_pstrings_Builder_String [pointer (some ⟨p, 0, none⟩)] h K := by
  refine F_pstrings_Builder_String _ _ _ ?_
  unfold F_pstrings_Builder_StringT
  obtain ⟨a, q, c, g1, g2, g3, g4⟩ := B.ex
  have hu : ∀ m : List Int, (u8V m).length = m.length := fun m => by rw [u8V_map, List.length_map]
  rcases g3 with ⟨rfl, _, _⟩ | ⟨r, sp, rfl, e2, e3, rfl⟩
  · exact (hc rfl).elim
  · have hlen : 0 < bs.length := List.length_pos_iff.2 hc
    refine withAddr_intro rfl ⟨_, _, _, cell_of g1 rfl, .inr (by omega), withAddr_intro rfl ⟨_, _, _, cell_of g1 rfl, bs, rfl, by omega, .inr ⟨r, 0, rfl, ⟨_, _, _, e3, lies_u8 ?_⟩, fun j hj => ?_, Ret.mk (k _ ?_)⟩⟩⟩
    · simp only [List.size_toArray, List.length_append, hu]; omega
    · rw [Nat.zero_add, cell_of e3 (v := (u8V bs)[j]'(by rw [hu]; exact hj)) (by rw [List.getElem?_append_left (by rw [hu]; exact hj), List.getElem?_eq_getElem])]
      exact (List.getElem?_eq_getElem _).symm
    · intro x y hx
      unfold Heap.freezeA
      rw [if_neg (by omega)]
      dsimp only
      rw [if_neg (fun e => by rw [e, e2] at hx; cases hx)]
      exact l x y hx
end Go.Proofs.Ytkcogdmddhkldaa
