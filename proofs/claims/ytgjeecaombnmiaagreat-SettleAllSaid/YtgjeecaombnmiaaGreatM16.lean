import Derived.Test.YtgjeecaombnmiaaGreatM15
import Derived.Test.YtgjeecaombnmiaaGreatM06
import Derived.Test.YtgjeecaombnmiaaGreatM07
import Derived.Test.YtgjeecaombnmiaaGreatM04
/- A round of a cycle's loop: what a call of yield does. -/
namespace Go.Proofs.YtgjeecaombnmiaaGreat
open Go Go.Sy Go.Value
set_option linter.unusedVariables false
set_option linter.unusedSimpArgs false
set_option maxRecDepth 100000
set_option maxHeartbeats 4000000

theorem At.put {h : Heap} {b l : Nat} {vs : List Value} {R : Loop} {o : Obj} (a : At h b vs) (e : h l = some (.loop R)) : At (h.ins l o) b vs := by
  obtain ⟨T, ea⟩ := a
  refine ⟨T, ?_⟩
  unfold Heap.ins
  rw [if_neg (fun g => by rw [g, e] at ea; cases ea)]
  exact ea
theorem At.nl {h : Heap} {b l : Nat} {vs : List Value} {R : Loop} (a : At h b vs) (e : h l = some (.loop R)) : l ≠ b := fun g => by
  obtain ⟨T, ea⟩ := a
  rw [← g, e] at ea; cases ea
structure K0 (g : Heap) (l rb rg rl rs q gp : Nat) (X : Loop) (v : Value) (b : Bool) : Prop where
  lo : g l = some (.loop X)
  ab : At g rb [pointer (some ⟨q, 0, none⟩)]
  ag : At g rg [pointer (some ⟨gp, 0, none⟩)]
  al : At g rl [v]
  bs : At g rs [.bool b]
  n1 : rb ≠ rl ∧ rb ≠ rs
  n2 : rg ≠ rl ∧ rg ≠ rs
  n3 : rl ≠ rs
section
variable {g : Heap} {l rb rg rl rs q gp : Nat} {X : Loop} {v : Value} {b : Bool}
theorem K0.le (k : K0 g l rb rg rl rs q gp X v b) {g' : Heap} (e : g.le g') : K0 g' l rb rg rl rs q gp X v b := { k with lo := e _ _ k.lo, ab := k.ab.le e, ag := k.ag.le e, al := k.al.le e, bs := k.bs.le e }
theorem K0.put (k : K0 g l rb rg rl rs q gp X v b) (Y : Loop) : K0 (g.ins l (.loop Y)) l rb rg rl rs q gp Y v b := { k with lo := by unfold Heap.ins; rw [if_pos rfl], ab := At.put k.ab k.lo, ag := At.put k.ag k.lo, al := At.put k.al k.lo, bs := At.put k.bs k.lo }
theorem K0.setl (k : K0 g l rb rg rl rs q gp X v b) (w : Value) : K0 (g.setN rl 0 [w]) l rb rg rl rs q gp X w b :=
  { k with lo := (q3 (At.nl k.al k.lo)).trans k.lo, ab := k.ab.set_ne k.n1.1, ag := k.ag.set_ne k.n2.1, al := k.al.set (o := 0) (ws := [w]), bs := k.bs.set_ne (Ne.symm k.n3) }
theorem K0.sets (k : K0 g l rb rg rl rs q gp X v b) (c : Bool) : K0 (g.setN rs 0 [.bool c]) l rb rg rl rs q gp X v c :=
  { k with lo := (q3 (At.nl k.bs k.lo)).trans k.lo, ab := k.ab.set_ne k.n1.2, ag := k.ag.set_ne k.n2.2, al := k.al.set_ne k.n3, bs := k.bs.set (o := 0) (ws := [.bool c]) }
end
structure Dst (i j k0 m : Nat) : Prop where
  ij : i ≠ j
  ki : k0 ≠ i
  kj : k0 ≠ j
  mi : m ≠ i
  mj : m ≠ j
  km : m ≠ k0
structure CY (B H : Heap) (gs : Nat → Heap) (i j k0 m gp lp q rb rg rl rs l : Nat) (R : Loop) (s : Ub) (ids : List Int) (sm : Bool) : Prop where
  sp : SepF B H gs
  w : GB B gs i j gp lp q s
  al : ∃ p c, K0 (gs k0) l rb rg rl rs q gp R (slice p ids.length c) sm ∧ OwnL qJV (gs m) [.int .i64 0] p c (qK .i64 ids)
def OutM (gs gs' : Nat → Heap) (i j k0 m : Nat) : Prop := ∀ n, n ≠ i → n ≠ j → n ≠ k0 → n ≠ m → gs' n = gs n
theorem OutM.trans {a b c : Nat → Heap} {i j k0 m : Nat} (x : OutM a b i j k0 m) (y : OutM b c i j k0 m) : OutM a c i j k0 m := fun n h1 h2 h3 h4 => (y n h1 h2 h3 h4).trans (x n h1 h2 h3 h4)
section
variable {B H : Heap} {gs : Nat → Heap} {i j k0 m gp lp q rb rg rl rs l : Nat} {s : Ub} {ids : List Int} {sm : Bool}
theorem qVD (D : Dst i j k0 m) {fn : FuncId} {Dn : Nat} {p : Int} {x : Nat → Value} (C : CY B H gs i j k0 m gp lp q rb rg rl rs l (qIb fn (setT (tC gp q rl p x) 8 (pointer (some ⟨rs, 0, none⟩))) #[15] (qDQ Tryz.f14 6) (cB Tryz.f14) Dn .ready) s ids sm) (hn : ids.length ≤ 1000000) {id : Int} {J : Value → Heap → Prop}
    (k : ∀ H' gs', CY B H' gs' i j k0 m gp lp q rb rg rl rs l (qIb fn (setT (tC gp q rl p x) 8 (pointer (some ⟨rs, 0, none⟩))) #[15] (qDQ Tryz.f14 6) (cB Tryz.f14) Dn .ready) s (ids ++ [id]) true → OutM gs gs' i j k0 m → J (.bool true) H') :
    YieldR Tryz.prog l [.int .i64 id] H J := by
  obtain ⟨sp, w, p0, c0, kk, O⟩ := C
  refine YieldR.of (sp.l k0 _ _ kk.lo) rfl rfl rfl (t := setT (setT (tC gp q rl p x) 8 (pointer (some ⟨rs, 0, none⟩))) 15 (.int .i64 id)) (by simp [qIb, qBR]) ?_
  refine CE.reg (by kernel_rfl) (Eq.mpr (cy6 (x := qA3 (setT (tC gp q rl p x) 8 (pointer (some ⟨rs, 0, none⟩))))) ⟨rfl, sp.l k0 _ _ kk.lo, ?_⟩)
  generalize hR : qIb fn (setT (tC gp q rl p x) 8 (pointer (some ⟨rs, 0, none⟩))) #[15] (qDQ Tryz.f14 6) (cB Tryz.f14) Dn .ready = R at *
  have s1 := sp.put (.loop { R with state := .busy }) kk.lo
  have k1 := kk.put { R with state := .busy }
  generalize ({ R with state := .busy } : Loop) = Rb at *
  have hb : R.body = cB Tryz.f14 := by rw [← hR]; rfl
  rw [hb]
  unfold cB
  generalize hg1 : (gs k0).ins l (.loop Rb) = g1 at *
  have e1 : qX gs k0 g1 k0 = g1 := qI _ _ _
  refine CE.block (CE.seq (CE.reg (by kernel_rfl) (Eq.mpr (cy7 (x := x)) ⟨_, _, _, (k1.al.le (by rw [← e1]; exact s1.l k0)).cell rfl, ?_⟩)))
  refine s1.box k0 fun r H2 g2 s2 A2 l2 hr2 => ?_
  rw [e1] at l2
  rw [qDY] at s2
  have k2 := k1.le l2
  have e2 : qX gs k0 g2 k0 = g2 := qI _ _ _
  have m2 : qX gs k0 g2 m = gs m := qG _ _ D.km
  refine s2.app m (vs := qK .i64 ids) (ws := [.int .i64 id]) (by rw [m2]; exact O) (by decide) (by omega) rfl (At.toRd (ws := []) (A2.le (by rw [← e2]; exact s2.l k0))) rfl (by rw [qL, List.length_singleton, Nat.mul_one]) fun p' c' h3 g3 s3 O3 => ?_
  have e3 : qX (qX gs k0 g2) m g3 k0 = g2 := by rw [qG _ _ (Ne.symm D.km)]; exact e2
  have lk3 : g2.le h3 := by rw [← e3]; exact s3.l k0
  have s4 := s3.set (i := k0) (b := rl) (o := 0) (ws := [slice p' (ids.length + 1) c']) (by rw [e3]; exact k2.al)
  rw [e3] at s4
  have k4 := k2.setl (slice p' (ids.length + 1) c')
  generalize hg4 : g2.setN rl 0 [slice p' (ids.length + 1) c'] = g4 at *
  have e4 : qX (qX (qX gs k0 g2) m g3) k0 g4 k0 = g4 := qI _ _ _
  have lk4 : g4.le (h3.setN rl 0 [slice p' (ids.length + 1) c']) := by rw [← e4]; exact s4.l k0
  refine ⟨(k2.al.le lk3).canSt (by simp), CE.reg (by kernel_rfl) (Eq.mpr (cy8 (x := qA3 (setT (setT (setT (setT (setT (setT (setT (tC gp q rl p x) 8 (pointer (some ⟨rs, 0, none⟩))) 15 (.int .i64 id)) 9 (.int .i64 id)) 16 (slice p0 ids.length c0)) 17 (.int .i64 id)) 18 (slice (some ⟨r, 0, none⟩) 1 1)) 19 (slice p' (ids.length + 1) c')))) ⟨(k4.bs.le lk4).canSt (by simp), ?_⟩)⟩
  have s5 := s4.set (i := k0) (b := rs) (o := 0) (ws := [.bool true]) (by rw [e4]; exact k4.bs)
  rw [e4, qDY] at s5
  have k5 := k4.sets true
  generalize hg5 : g4.setN rs 0 [.bool true] = g5 at *
  have e5 : qX (qX (qX gs k0 g2) m g3) k0 g5 k0 = g5 := qI _ _ _
  have lo5 := s5.l k0 l _ (by rw [e5]; exact k5.lo)
  have s6 := s5.put (i := k0) (.loop R) (by rw [e5]; exact k5.lo)
  rw [e5, qDY] at s6
  have k6 := k5.put R
  have ei : qX (qX (qX gs k0 g2) m g3) k0 (g5.ins l (.loop R)) = qX (qX gs m g3) k0 (g5.ins l (.loop R)) := by
    rw [qUG gs g2 g3 (Ne.symm D.km), qDY]
  rw [ei] at s6
  refine ⟨rfl, lo5, k _ _ ⟨s6, w.mv ?_ ?_, p', c', ?_, ?_⟩ fun n h1 h2 h3 h4 => ?_⟩
  · rw [qG _ _ (Ne.symm D.ki), qG _ _ (Ne.symm D.mi)]
  · rw [qG _ _ (Ne.symm D.kj), qG _ _ (Ne.symm D.mj)]
  · rw [qI, List.length_append, List.length_singleton]; exact k6
  · rw [qG _ _ D.km, qI, qAI]; exact O3
  · rw [qG _ _ h3, qG _ _ h4]
end
end Go.Proofs.YtgjeecaombnmiaaGreat

/- A pass: the function that a cycle ranges over. -/
namespace Go.Proofs.YtgjeecaombnmiaaGreat
open Go Go.Sy Go.Value
set_option linter.unusedVariables false
set_option linter.unusedSimpArgs false
set_option maxRecDepth 100000
set_option maxHeartbeats 4000000

theorem SepF.give {B H : Heap} {gs : Nat → Heap} {j n : Nat} {g' : Heap} (s : SepF B H (qX gs j g')) (l : (gs j).le g') (h : n ≠ j) : SepF B H (qX gs n (sup (gs n) (rest (gs j) g'))) := by
  have ej : qX gs j g' j = g' := qI _ _ _
  have en : ∀ m, m ≠ j → qX gs j g' m = gs m := fun m h => qG _ _ h
  have sE : ∀ r o, sup (gs n) (rest (gs j) g') r = some o → gs n r = some o ∨ (gs j r = none ∧ g' r = some o) := fun r o e => by
    unfold sup at e
    cases h1 : gs n r with
    | some x => rw [h1] at e; exact .inl e
    | none =>
      rw [h1] at e
      refine .inr ?_
      have e : rest (gs j) g' r = some o := e
      unfold rest at e
      cases h2 : gs j r with
      | none => rw [h2] at e; exact ⟨rfl, e⟩
      | some x => rw [h2] at e; cases e
  have sl := s.l j
  rw [ej] at sl
  have ln : ∀ m, m ≠ j → (gs m).le H := fun m h => by have := s.l m; rw [en m h] at this; exact this
  have dn : ∀ m, m ≠ j → ∀ r o, gs m r = some o → B r = none := fun m h r o e => s.d m r o (by rw [en m h]; exact e)
  have d1 : ∀ m, m ≠ j → ∀ r o, gs m r = some o → g' r = none := fun m h r o e => by
    have := s.dj m j h r o (by rw [en m h]; exact e)
    rw [ej] at this; exact this
  have d2 : ∀ m, m ≠ j → ∀ r o, g' r = some o → gs m r = none := fun m h r o e => by
    have := s.dj j m (Ne.symm h) r o (by rw [ej]; exact e)
    rw [en m h] at this; exact this
  have dB : ∀ r o, g' r = some o → B r = none := fun r o e => s.d j r o (by rw [ej]; exact e)
  have dd : ∀ a b, a ≠ j → b ≠ j → a ≠ b → ∀ r o, gs a r = some o → gs b r = none := fun a b ha hb hab r o e => by
    have := s.dj a b hab r o (by rw [en a ha]; exact e)
    rw [en b hb] at this; exact this
  have lj : ∀ r o, gs j r = some o → g' r = some o := l
  refine ⟨s.b, fun m => ?_, fun m r o e => ?_, fun a b hab r o e => ?_⟩
  · by_cases g : m = n
    · subst g
      rw [qI]
      intro r o e
      rcases sE r o e with e | ⟨_, e⟩
      · exact ln m h r o e
      · exact sl r o e
    · rw [qG _ _ g]
      by_cases g2 : m = j
      · subst g2; exact Heap.le_trans l sl
      · exact ln m g2
  · by_cases g : m = n
    · subst g
      rw [qI] at e
      rcases sE r o e with e | ⟨_, e⟩
      · exact dn m h r o e
      · exact dB r o e
    · rw [qG _ _ g] at e
      by_cases g2 : m = j
      · subst g2; exact dB r o (l r o e)
      · exact dn m g2 r o e
  · by_cases ga : a = n
    · subst ga
      rw [qI] at e
      rw [qG _ _ (Ne.symm hab)]
      rcases sE r o e with e2 | ⟨h1, e2⟩
      · by_cases gb : b = j
        · subst gb; exact qJ l (d1 a h r o e2)
        · exact dd a b h gb hab r o e2
      · by_cases gb : b = j
        · subst gb; exact h1
        · exact d2 b gb r o e2
    · rw [qG _ _ ga] at e
      by_cases gb : b = n
      · subst gb
        rw [qI]
        cases hs : sup (gs b) (rest (gs j) g') r with
        | none => rfl
        | some y =>
          rcases sE r y hs with h1 | ⟨h1, h2⟩
          · by_cases g3 : a = j
            · subst g3
              have := d2 b h r o (l r o e)
              rw [h1] at this; cases this
            · have := dd a b g3 h hab r o e
              rw [h1] at this; cases this
          · by_cases g3 : a = j
            · subst g3; rw [h1] at e; cases e
            · have := d1 a g3 r o e
              rw [h2] at this; cases this
      · rw [qG _ _ gb]
        by_cases g3 : a = j
        · subst g3
          exact d2 b (Ne.symm hab) r o (l r o e)
        · by_cases g4 : b = j
          · subst g4; exact qJ l (d1 a g3 r o e)
          · exact dd a b g3 g4 hab r o e
theorem qPH {gs : Nat → Heap} {j n : Nat} {g' : Heap} {q : Option Addr} {c : Nat} {l : List Int} (dj : ∀ r o, g' r = some o → gs j r = none → gs n r = none) (O : OwnL (gs j) g' [.int .i64 0] q c (qK .i64 l)) : Ints .i64 (sup (gs n) (rest (gs j) g')) q l := by
  rcases O with ⟨e, _, _⟩ | ⟨r, sp, rfl, e0, ⟨T, a⟩, _⟩
  · exact .inl e
  · refine At.toRd (ws := sp) ⟨T, ?_⟩
    unfold sup rest
    rw [dj r _ a e0, e0]
    exact a
theorem qLx : ∀ (l : List Int) (s : Ub) (id : Int), qi (l ++ [id]) s = if (qAv (qi l s).2 id).1 = 0 then ((qi l s).1 ++ [id], (qAv (qi l s).2 id).2) else qi l s
  | [], s, id => by
    show qi [id] s = _
    rw [qi, qi, qi]
    rfl
  | x :: l, s, id => by
    rw [List.cons_append, qi, qi]
    by_cases h : (qAv s x).1 = 0
    · rw [if_pos h, if_pos h, qLx l (qAv s x).2 id]
      dsimp only
      split <;> rfl
    · rw [if_neg h, if_neg h, qLx l s id]
def qO6 (l : List Int) : Bool := match l with
  | [] => false
  | _ => true
theorem qUE (l : List Int) (x : Int) : qO6 (l ++ [x]) = true := by cases l <;> rfl
end Go.Proofs.YtgjeecaombnmiaaGreat

/- The regions of a cycle and of a pass, whatever lies in the slots that nobody looks at. -/
namespace Go.Proofs.YtgjeecaombnmiaaGreat
open Go Go.Sy Go.Value
set_option linter.unusedVariables false
set_option linter.unusedSimpArgs false
set_option maxRecDepth 100000
set_option maxHeartbeats 4000000

theorem qOO {id : Nat} {J : Exit → List Value → Heap → Prop} {t : List Value} {h : Heap} (k : J .normal t h) : qOR id J (.exit id) t h := by
  show if id = id then J .normal t h else J (.exit id) t h
  rw [if_pos rfl]; exact k
theorem YieldR.mono {P : Program} {l : Nat} {args : List Value} {h : Heap} {K K' : Value → Heap → Prop} (k : YieldR P l args h K) (m : ∀ v h', K v h' → K' v h') : YieldR P l args h K' := fun w r => qPc m (k w r)
theorem Br.imp {b : Bool} {A B A' B' : Prop} (k : Br b A B) (f : A → A') (g : B → B') : Br b A' B' := by
  cases b
  · exact g k
  · exact f k
section
variable {l rb rg q n c : Nat} {a : Option Addr} {i id : Int} {y : Nat → Value} {h : Heap} {J : List Value → Heap → Prop}
theorem qs1 (k : ∀ y', y' 10 = .bool (decide (i < (n : Int))) → J (tP l rb rg q a n c i y') h) : qBn Tryz.prog (qn Tryz.f82 1) (qn Tryz.f82 1) (tP l rb rg q a n c i y) h J := by
  rw [ps1]
  exact k (qA3 (setT (tP l rb rg q a n c i y) 10 (.bool (decide (i < (n : Int)))))) rfl
theorem qs2 (k : 0 ≤ i ∧ i < (n : Int) ∧ qA a fun b o => ∃ v : Int, h.cell b (o + i.toNat) = some (.int .i64 v) ∧ ∀ y', y' 5 = .int .i64 v → J (tP l rb rg q a n c i y') h) : qBn Tryz.prog (qn Tryz.f82 2) (qn Tryz.f82 2) (tP l rb rg q a n c i y) h J := by
  rw [ps2]
  obtain ⟨h1, h2, k⟩ := k
  obtain ⟨b, o, rfl, v, hv, k⟩ := qAU k
  exact ⟨h1, h2, qB rfl ⟨v, hv, k (qA3 (setT (setT (setT (tP l rb rg q (some ⟨b, o, none⟩) n c i y) 11 (pointer (some ⟨b, o + i.toNat, none⟩))) 12 (.int .i64 v)) 5 (.int .i64 v))) rfl⟩⟩
def x3 (t : List Value) (id : Int) (g b : Option Addr) (e : Int) (v18 v19 v20 v21 v22 v23 : Value) : List Value := setT (setT (setT (setT (setT (setT (setT (setT (setT (setT (setT (setT t 5 (.int .i64 id)) 13 (pointer g)) 14 (pointer b)) 15 (.int .i64 id)) 16 (.int .i64 e)) 17 (.bool (e == 0))) 18 v18) 19 v19) 20 v20) 21 v21) 22 v22) 23 v23
theorem qYO {g b : Option Addr} {e : Int} {v18 v19 v20 v21 v22 v23 : Value} : tP l rb rg q a n c i (qA3 (x3 (tP l rb rg q a n c i y) id g b e v18 v19 v20 v21 v22 v23)) = x3 (tP l rb rg q a n c i y) id g b e v18 v19 v20 v21 v22 v23 := by kernel_rfl
theorem qYx {g b : Option Addr} {e : Int} {v18 v19 v20 v21 v22 v23 : Value} : qA3 (x3 (tP l rb rg q a n c i y) id g b e v18 v19 v20 v21 v22 v23) 23 = v23 := by kernel_rfl
theorem qYP {g b : Option Addr} {e : Int} {v18 v19 v20 v21 v22 v23 : Value} (kk : ∀ y', y' 23 = v23 → J (tP l rb rg q a n c i y') h) : J (x3 (tP l rb rg q a n c i y) id g b e v18 v19 v20 v21 v22 v23) h := by
  have := kk (qA3 (x3 (tP l rb rg q a n c i y) id g b e v18 v19 v20 v21 v22 v23)) qYx
  rwa [qYO] at this
theorem qs3 (h5 : y 5 = .int .i64 id) (k : ∃ g : Option Addr, h.cell rg 0 = some (pointer g) ∧ ∃ b : Option Addr, h.cell rb 0 = some (pointer b) ∧ CallA Tryz.prog qCh [pointer g, pointer b, .int .i64 id] h fun v h => ∃ e : Int, v = .int .i64 e ∧
      Br (e == 0) (YieldR Tryz.prog l [.int .i64 id] h fun v h => ∃ r : Bool, v = .bool r ∧ ∀ y', y' 23 = .bool (!r) → J (tP l rb rg q a n c i y') h) (∀ y', y' 23 = .bool false → J (tP l rb rg q a n c i y') h)) :
    qBn Tryz.prog (qn Tryz.f82 3) (qn Tryz.f82 3) (tP l rb rg q a n c i y) h J := by
  have e : tP l rb rg q a n c i y = setT (tP l rb rg q a n c i y) 5 (.int .i64 id) := by rw [← h5]; rfl
  rw [e, ps3]
  obtain ⟨g, hg, b, hb, k⟩ := k
  exact ⟨g, hg, b, hb, k.mono fun v h' ⟨e, hv, br⟩ => ⟨e, hv, Br.imp (b := e == 0) br (fun yk => YieldR.mono yk fun v h2 ⟨r, hr, kk⟩ => ⟨r, hr, qYP kk⟩) fun kk => qYP kk⟩⟩
theorem qs4 (k : ∀ y', J (tP l rb rg q a n c (IntKind.wrap .i64 (i + 1)) y') h) : qBn Tryz.prog (qn Tryz.f82 4) (qn Tryz.f82 4) (tP l rb rg q a n c i y) h J := by
  rw [ps4]
  exact k (qA3 (setT (setT (tP l rb rg q a n c i y) 24 (.int .i64 (IntKind.wrap .i64 (i + 1)))) 9 (.int .i64 (IntKind.wrap .i64 (i + 1)))))
theorem qs0 (k : ∃ b : Option Addr, h.cell rb 0 = some (pointer b) ∧ CallA Tryz.prog qCf [pointer b, .int .i64 2] h fun v h => ∃ (a : Option Addr) (n c q : Nat), v = slice a n c ∧ b = some ⟨q, 0, none⟩ ∧ ∀ y', J (tP l rb rg q a n c 0 y') h) :
    qBn Tryz.prog (qn Tryz.f82 0) (qn Tryz.f82 0) (sp 25 [(0, .func (.yield l) #[] #[]), (1, pointer (some ⟨rb, 0, none⟩)), (2, pointer (some ⟨rg, 0, none⟩))]) h J := by
  rw [ps0]
  obtain ⟨b, hb, k⟩ := k
  refine ⟨b, hb, k.mono fun v h' ⟨a, n, c, q, hv, e, kk⟩ => ⟨a, n, c, hv, ?_⟩⟩
  subst e
  exact kk fun _ => undef
end
section
variable {gp q rl rs : Nat} {p : Int} {x : Nat → Value} {h : Heap} {J : List Value → Heap → Prop}
theorem qc3 (k : ∀ y, J (tC gp q rl (IntKind.wrap .i64 (p + 1)) y) h) : qBn Tryz.prog (qn Tryz.f14 3) (qn Tryz.f14 3) (tC gp q rl p x) h J := by
  rw [cy3]
  exact k (qA3 (setT (setT (setT (tC gp q rl p x) 10 (.int .i64 p)) 11 (.int .i64 (IntKind.wrap .i64 (p + 1)))) 7 (.int .i64 (IntKind.wrap .i64 (p + 1)))))
theorem qc4 (k : qQ h [.bool false] 4 fun r h => h.canSt r 0 1 ∧ ∀ y, y 8 = pointer (some ⟨r, 0, none⟩) → J (tC gp q rl p y) (h.setN r 0 [.bool false])) : qBn Tryz.prog (qn Tryz.f14 4) (qn Tryz.f14 4) (tC gp q rl p x) h J := by
  rw [cy4]
  intro r hr
  obtain ⟨cs, kk⟩ := k r hr
  exact ⟨cs, kk (qA3 (setT (tC gp q rl p x) 8 (pointer (some ⟨r, 0, none⟩)))) rfl⟩
theorem qc5 (h8 : x 8 = pointer (some ⟨rs, 0, none⟩)) (k : CallA Tryz.prog qH1 [pointer (some ⟨gp, 0, none⟩), pointer (some ⟨q, 0, none⟩)] h fun v h => ∃ (f : Fn) (a b : Array Value), v = .func f a b ∧ ∀ y, y 8 = pointer (some ⟨rs, 0, none⟩) → y 14 = .func f a b → J (tC gp q rl p y) h) :
    qBn Tryz.prog (qn Tryz.f14 5) (qn Tryz.f14 5) (tC gp q rl p x) h J := by
  rw [cy5]
  refine k.mono fun v h' ⟨f, a, b, hv, kk⟩ => ⟨f, a, b, hv, ?_⟩
  exact kk (qA3 (setT (setT (setT (tC gp q rl p x) 12 (pointer (some ⟨gp, 0, none⟩))) 13 (pointer (some ⟨q, 0, none⟩))) 14 (.func f a b))) h8 rfl
theorem t8 (h8 : x 8 = pointer (some ⟨rs, 0, none⟩)) : tC gp q rl p x = setT (tC gp q rl p x) 8 (pointer (some ⟨rs, 0, none⟩)) := by rw [← h8]; rfl
theorem qc9 (h8 : x 8 = pointer (some ⟨rs, 0, none⟩)) (k : ∃ b : Bool, h.cell rs 0 = some (.bool b) ∧ ∀ y, y 21 = .bool (!b) → J (tC gp q rl p y) h) : qBn Tryz.prog (qn Tryz.f14 9) (qn Tryz.f14 9) (tC gp q rl p x) h J := by
  rw [t8 h8, cy9]
  obtain ⟨b, hb, kk⟩ := k
  exact ⟨b, hb, kk (qA3 (setT (setT (setT (tC gp q rl p x) 8 (pointer (some ⟨rs, 0, none⟩))) 20 (.bool b)) 21 (.bool (!b)))) rfl⟩
theorem qc2 (k : ∀ y, J (tC gp q rl 0 y) h) : qBn Tryz.prog (qn Tryz.f14 2) (qn Tryz.f14 2) (sp 24 [(0, pointer (some ⟨gp, 0, none⟩)), (1, pointer (some ⟨q, 0, none⟩)), (4, slice none 0 0), (5, .int .i64 0), (6, pointer (some ⟨rl, 0, none⟩))]) h J := by
  rw [cy2]
  exact k (qA3 (sp 24 [(0, pointer (some ⟨gp, 0, none⟩)), (1, pointer (some ⟨q, 0, none⟩)), (4, slice none 0 0), (5, .int .i64 0), (6, pointer (some ⟨rl, 0, none⟩)), (7, .int .i64 0)]))
theorem qY9 {t : List Value} {K : Value → Heap → Prop} : qLi Tryz.prog Tryz.f14 t h K = Ret h K (tuple #[qA3 t 4, qA3 t 5]) := by kernel_rfl
theorem qZD {K : Value → Heap → Prop} (k : ∃ (a : Option Addr) (n m : Nat), h.cell rl 0 = some (slice a n m) ∧ Ret h K (tuple #[slice a n m, .int .i64 p])) {J : List Value → Heap → Prop} (kJ : ∀ t, qLi Tryz.prog Tryz.f14 t h K → J t h) :
    qBn Tryz.prog (qn Tryz.f14 10) (qn Tryz.f14 10) (tC gp q rl p x) h J := by
  rw [qZG]
  obtain ⟨a, n, m, ha, kk⟩ := k
  refine ⟨a, n, m, ha, kJ _ ?_⟩
  rw [qY9]
  exact kk
end
theorem qZE {t : List Value} {h : Heap} {K : Value → Heap → Prop} : qLi Tryz.prog Tryz.f82 t h K = Ret h K (tuple #[]) := by kernel_rfl
end Go.Proofs.YtgjeecaombnmiaaGreat

/- A pass: each matched instruction is tried, yield is called for what went through. -/
namespace Go.Proofs.YtgjeecaombnmiaaGreat
open Go Go.Sy Go.Value
set_option linter.unusedVariables false
set_option linter.unusedSimpArgs false
set_option maxRecDepth 100000
set_option maxHeartbeats 4000000

theorem qNQ : ∀ (l : List Int) (s : Ub), (qi l s).1.length ≤ l.length
  | [], s => Nat.le_refl _
  | id :: l, s => by
    rw [qi]
    split
    · exact Nat.succ_le_succ (qNQ l _)
    · exact Nat.le_succ_of_le (qNQ l _)
def rc (F : Func) (fn : FuncId) (gp q rl rs : Nat) (p : Int) (x : Nat → Value) (Dn : Nat) : Loop := qIb fn (setT (tC gp q rl p x) 8 (pointer (some ⟨rs, 0, none⟩))) #[15] (qDQ F 6) (cB F) Dn .ready
section
variable {B : Heap} {i j k0 m n gp lp q rb rg rl rs l : Nat} {fn : FuncId} {Dn : Nat} {p : Int} {x : Nat → Value} {R : Loop}
theorem CY.try {H : Heap} {gs : Nat → Heap} {s : Ub} {ids : List Int} {sm : Bool} (D : Dst i j k0 m) (C : CY B H gs i j k0 m gp lp q rb rg rl rs l R s ids sm) {id : Int} {K : Value → Heap → Prop}
    (k : ∀ H' gs', CY B H' gs' i j k0 m gp lp q rb rg rl rs l R (qAv s id).2 ids sm → OutM gs gs' i j k0 m → K (.int .i64 (qAv s id).1) H') :
    CallA Tryz.prog qCh [pointer (some ⟨gp, 0, none⟩), pointer (some ⟨q, 0, none⟩), .int .i64 id] H K := by
  obtain ⟨sp, w, p0, c0, kk, O⟩ := C
  refine qPw sp w D.ij D.ki D.kj fun H' gs' sp' o' w' => k H' gs' ⟨sp', w', p0, c0, kk.le o'.l, ?_⟩ fun y h1 h2 h3 h4 => o'.o y h1 h2 h3
  rw [o'.o m D.mi D.mj D.km]; exact O
theorem qWk (D : Dst i j k0 m) (n1 : n ≠ i) (n2 : n ≠ j) (n3 : n ≠ k0) (n4 : n ≠ m) {L : List Int} {s : Ub} {ids : List Int} {sm : Bool} (hn : ids.length + L.length ≤ 1000000) {gs0 : Nat → Heap} {c : Nat} {a : Option Addr} {J : Exit → List Value → Heap → Prop}
    (k : ∀ t H' gs', CY B H' gs' i j k0 m gp lp q rb rg rl rs l (rc Tryz.f14 fn gp q rl rs p x Dn) (qi L s).2 (ids ++ (qi L s).1) (sm || qO6 (qi L s).1) → OutM gs0 gs' i j k0 m → J (.exit 0) t H') :
    ∀ (todo done : List Int) (H : Heap) (gs : Nat → Heap) (y : Nat → Value), L = done ++ todo → CY B H gs i j k0 m gp lp q rb rg rl rs l (rc Tryz.f14 fn gp q rl rs p x Dn) (qi done s).2 (ids ++ (qi done s).1) (sm || qO6 (qi done s).1) → OutM gs0 gs i j k0 m → Ints .i64 (gs n) a L →
      qJi Tryz.prog none (pR Tryz.f82) J (todo.length + 1) (tP l rb rg q a L.length c (done.length : Int) y) H := by
  intro todo
  induction todo with
  | nil =>
    intro done H gs y e C o I
    rw [List.append_nil] at e
    subst e
    show CE _ _ (pR _) _ _ _
    unfold pR
    refine CE.seq (CE.reg (by kernel_rfl) (qs1 fun y1 h1 => CE.seq (CE.cond (b := decide ((L.length : Int) < (L.length : Int))) h1 (Br.no (decide_eq_false (by omega)) (CE.exit ?_)))))
    exact k _ _ _ C o
  | cons id todo ih =>
    intro done H gs y e C o I
    have hlen : L.length = done.length + (todo.length + 1) := by rw [e, List.length_append, List.length_cons]
    have hl : done.length < L.length := by omega
    have hid : L[done.length] = id := by simp [e]
    have ih := fun H gs y C o I => ih (done ++ [id]) H gs y (by rw [e, List.append_assoc]; rfl) C o I
    rw [List.length_append, List.length_singleton] at ih
    obtain ⟨b, o1, ea, hc⟩ := Ints.at (I.le (C.sp.l n)) hl
    rw [hid] at hc
    show CE _ _ (pR _) _ _ _
    unfold pR
    refine CE.seq (CE.reg (by kernel_rfl) (qs1 fun y1 h1 => CE.seq (CE.cond (b := decide ((done.length : Int) < (L.length : Int))) h1 (Br.yes (decide_eq_true (by omega)) (CE.skip ?_)))))
    refine CE.seq (CE.block (CE.seq (CE.reg (by kernel_rfl) (qs2 ⟨by omega, by omega, qB ea ⟨id, by rw [Int.toNat_natCast]; exact hc, fun y2 h5 => ?_⟩⟩))))
    refine CE.seq (CE.reg (by kernel_rfl) (qs3 h5 ⟨_, ?_, _, ?_, C.try D fun H3 gs3 C3 o3 => ⟨_, rfl, ?_⟩⟩))
    · obtain ⟨p0, c0, kk, O⟩ := C.al
      exact (kk.ag.le (C.sp.l k0)).cell rfl
    · obtain ⟨p0, c0, kk, O⟩ := C.al
      exact (kk.ab.le (C.sp.l k0)).cell rfl
    have I3 : Ints .i64 (gs3 n) a L := by rw [o3 n n1 n2 n3 n4]; exact I
    have ee := qLx done s id
    have et : ((qAv (qi done s).2 id).1 == 0) = decide ((qAv (qi done s).2 id).1 = 0) := rfl
    have fin : ∀ H4 gs4 (y3 y4 : Nat → Value), y3 23 = .bool false → CY B H4 gs4 i j k0 m gp lp q rb rg rl rs l (rc Tryz.f14 fn gp q rl rs p x Dn) (qi (done ++ [id]) s).2 (ids ++ (qi (done ++ [id]) s).1) (sm || qO6 (qi (done ++ [id]) s).1) → OutM gs0 gs4 i j k0 m → Ints .i64 (gs4 n) a L →
        CE Tryz.prog none (.cond (.tmp 23) .ret .skip) (tP l rb rg q a L.length c (done.length : Int) y3) H4 (qOR 1 (qMu (fun t h => CE Tryz.prog none (qDQ Tryz.f82 4) t h (qMu (qJi Tryz.prog none (pR Tryz.f82) J (todo.length + 1)) J)) (qMu (qJi Tryz.prog none (pR Tryz.f82) J (todo.length + 1)) J))) := by
      intro H4 gs4 y3 y4 h23 C4 o4 I4
      refine CE.cond (b := false) h23 (Br.no rfl (CE.skip ?_))
      refine CE.reg (by kernel_rfl) (qs4 fun y5 => ?_)
      rw [qO (by omega) (by omega)]
      exact ih H4 gs4 y5 C4 o4 I4
    by_cases h0 : (qAv (qi done s).2 id).1 = 0
    · rw [if_pos h0] at ee
      refine Br.yes (by rw [et]; exact decide_eq_true h0) (qVD D C3 (by rw [List.length_append]; have := qNQ done s; omega) fun H4 gs4 C4 o4 => ⟨true, rfl, fun y3 h23 => fin H4 gs4 y3 y3 h23 ?_ ((o.trans o3).trans o4) ?_⟩)
      · rw [ee]
        dsimp only
        rw [qUE, Bool.or_true, ← List.append_assoc]
        exact C4
      · rw [o4 n n1 n2 n3 n4]; exact I3
    · rw [if_neg h0] at ee
      refine Br.no (by rw [et]; exact decide_eq_false h0) fun y3 h23 => fin H3 gs3 y3 y3 h23 ?_ (o.trans o3) I3
      rw [ee]
      have C3' := C3
      rw [qOy id ?_ h0] at C3'
      · exact C3'
      · exact C.w.b.1
end
end Go.Proofs.YtgjeecaombnmiaaGreat

/- A cycle: passes, till one settles nothing. -/
namespace Go.Proofs.YtgjeecaombnmiaaGreat
open Go Go.Sy Go.Value
set_option linter.unusedVariables false
set_option linter.unusedSimpArgs false
set_option maxRecDepth 100000
set_option maxHeartbeats 4000000

theorem qTr {id id' : Nat} {J : Exit → List Value → Heap → Prop} {t : List Value} {h : Heap} (e : id' ≠ id) (k : J (.exit id') t h) : qOR id J (.exit id') t h := by
  show if id' = id then J .normal t h else J (.exit id') t h
  rw [if_neg e]; exact k
def OutN (gs gs' : Nat → Heap) (i j k0 m n : Nat) : Prop := ∀ y, y ≠ i → y ≠ j → y ≠ k0 → y ≠ m → y ≠ n → gs' y = gs y
theorem OutN.trans {a b c : Nat → Heap} {i j k0 m n : Nat} (x : OutN a b i j k0 m n) (y : OutN b c i j k0 m n) : OutN a c i j k0 m n := fun z h1 h2 h3 h4 h5 => (y z h1 h2 h3 h4 h5).trans (x z h1 h2 h3 h4 h5)
section
variable {B : Heap} {i j k0 m n gp lp q rb rg rl rs l : Nat} {fn : FuncId} {Dn : Nat} {p : Int} {x : Nat → Value}
theorem qXF (D : Dst i j k0 m) (n1 : n ≠ i) (n2 : n ≠ j) (n3 : n ≠ k0) (n4 : n ≠ m) {H : Heap} {gs : Nat → Heap} {s : Ub} {ids : List Int} {sm : Bool} (C : CY B H gs i j k0 m gp lp q rb rg rl rs l (rc Tryz.f14 fn gp q rl rs p x Dn) s ids sm) (hn : ids.length + (qf s.S 2).length ≤ 1000000) {K : Value → Heap → Prop}
    (k : ∀ H' gs', CY B H' gs' i j k0 m gp lp q rb rg rl rs l (rc Tryz.f14 fn gp q rl rs p x Dn) (qi (qf s.S 2) s).2 (ids ++ (qi (qf s.S 2) s).1) (sm || qO6 (qi (qf s.S 2) s).1) → OutN gs gs' i j k0 m n → K (tuple #[]) H') :
    CallA Tryz.prog qGn [.func (.yield l) #[] #[], pointer (some ⟨rb, 0, none⟩), pointer (some ⟨rg, 0, none⟩)] H K := by
  refine CallA.of_CE Tryz.func82 qYl (fun _ _ => Tryz.call82 _ _) (by kernel_rfl) ?_
  have ep : qMJ (Tryz.f82).ntmps [.func (.yield l) #[] #[], pointer (some ⟨rb, 0, none⟩), pointer (some ⟨rg, 0, none⟩)] = sp 25 [(0, .func (.yield l) #[] #[]), (1, pointer (some ⟨rb, 0, none⟩)), (2, pointer (some ⟨rg, 0, none⟩))] := by kernel_rfl
  rw [ep]
  unfold pC
  obtain ⟨sp, w, p0, c0, kk, O⟩ := C
  refine CE.seq (CE.reg (by kernel_rfl) (qs0 ⟨_, (kk.ab.le (sp.l k0)).cell rfl, sp.call j (qTn w.b fun g1 a c1 l1 O1 H1 s1 => ⟨a, _, c1, q, rfl, rfl, fun y => ?_⟩)⟩))
  have I1 : Ints .i64 (sup (gs n) (rest (gs j) g1)) a (qf s.S 2) := qPH (fun r o e1 e2 => by
    have := s1.dj j n (Ne.symm n2) r o (by rw [qI]; exact e1)
    rwa [qG _ _ n2] at this) O1
  have s2 := s1.give l1 n2
  generalize sup (gs n) (rest (gs j) g1) = gn at *
  refine CE.block (CE.loop ((qf s.S 2).length + 1) (qWk (B := B) (gp := gp) (lp := lp) (q := q) (rb := rb) (rg := rg) (rl := rl) (rs := rs) (l := l) (fn := fn) (Dn := Dn) (p := p) (x := x) D n1 n2 n3 n4 (L := qf s.S 2) (s := s) (ids := ids) (sm := sm) hn (gs0 := qX gs n gn) (fun t H' gs' C' o' => ?_) (qf s.S 2) [] H1 (qX gs n gn) y rfl ?_ (fun _ _ _ _ _ => rfl) (by rw [qI]; exact I1)))
  · refine qOO ⟨.inl rfl, ?_⟩
    rw [qZE]
    exact Ret.mk (k H' gs' C' fun z h1 h2 h3 h4 h5 => (o' z h1 h2 h3 h4).trans (qG _ _ h5))
  · show CY _ _ _ _ _ _ _ _ _ _ _ _ _ _ _ _ s (ids ++ []) (sm || false)
    rw [List.append_nil, Bool.or_false]
    exact ⟨s2, w.mv (qG _ _ (Ne.symm n1)) (qG _ _ (Ne.symm n2)), p0, c0, by rw [qG _ _ (Ne.symm n3)]; exact kk, by rw [qG _ _ (Ne.symm n4)]; exact O⟩
structure CZ (B H : Heap) (gs : Nat → Heap) (i j k0 m gp lp q rl : Nat) (s : Ub) (ids : List Int) : Prop where
  sp : SepF B H gs
  w : GB B gs i j gp lp q s
  al : ∃ p c, At (gs k0) rl [slice p ids.length c] ∧ OwnL qJV (gs m) [.int .i64 0] p c (qK .i64 ids)
theorem qQL (D : Dst i j k0 m) (n1 : n ≠ i) (n2 : n ≠ j) (n3 : n ≠ k0) (n4 : n ≠ m) {gs0 : Nat → Heap} {J : Exit → List Value → Heap → Prop} :
    ∀ (f : Nat) {s : Ub} {ids : List Int} {p : Int} {H : Heap} {gs : Nat → Heap} {y : Nat → Value}, s.S.Ok → (qf s.S 2).length < f → ids.length + (qf s.S 2).length ≤ 1000000 → 0 ≤ p → p + f ≤ 2000000 → CZ B H gs i j k0 m gp lp q rl s ids → OutN gs0 gs i j k0 m n →
      (∀ y' H' gs', CZ B H' gs' i j k0 m gp lp q rl (qDS f s).2.2 (ids ++ (qDS f s).1) → OutN gs0 gs' i j k0 m n → J (.exit 0) (tC gp q rl (p + ((qDS f s).2.1 : Int)) y') H') →
      qJi Tryz.prog none (cR Tryz.f14) J f (tC gp q rl p y) H
  | 0, s, ids, p, H, gs, y, ok, hf, hn, hp, hq, C, o, k => by omega
  | f + 1, s, ids, p, H, gs, y, ok, hf, hn, hp, hq, C, o, k => by
    obtain ⟨sp, w, p0, c0, A, O⟩ := C
    show CE _ _ (cR _) _ _ _
    unfold cR
    refine CE.block (CE.seq (CE.reg (by kernel_rfl) (qc3 fun y1 => CE.seq (CE.reg (by kernel_rfl) (qc4 (sp.cp k0 (vs := [.bool false]) rfl fun rs H1 g1 s1 As l1 cs hrs => ⟨cs, fun y2 h8 => ?_⟩))))))
    rw [qO (by omega) (by omega)]
    have Al := A.le l1
    have ne1 : rl ≠ rs := A.ne (qJ (sp.l k0) hrs)
    have w1 : GB B (qX gs k0 g1) i j gp lp q s := w.mv (qG _ _ (Ne.symm D.ki)) (qG _ _ (Ne.symm D.kj))
    have m1 : qX gs k0 g1 m = gs m := qG _ _ D.km
    have e1 : qX gs k0 g1 k0 = g1 := qI _ _ _
    refine CE.seq (CE.seq (CE.reg (by kernel_rfl) (qc5 h8 (qPq _ _ _ _ (s1.box k0 fun rg H2 g2 s2 Ag l2 hrg => s2.box k0 fun rb H3 g3 s3 Ab l3 hrb => Ret.mk ⟨_, _, _, rfl, fun y3 h83 h14 => ?_⟩)))))
    rw [qDY] at s2
    rw [qDY, qDY] at s3
    rw [e1] at l2
    rw [qDY, qI] at l3
    have e3 : qX gs k0 g3 k0 = g3 := qI _ _ _
    have gG : g1 rg = none := qJ (by rw [← e1]; exact s1.l k0) hrg
    have gB : g2 rb = none := qJ (by have := s2.l k0; rwa [qI] at this) hrb
    refine CE.block (CE.range (gf := qGn) (lb := [pointer (some ⟨rb, 0, none⟩), pointer (some ⟨rg, 0, none⟩)]) h14 (fun _ _ => Tryz.call82 _ _) fun fn l D0 hl => ?_)
    have et : tC gp q rl (p + 1) y3 = setT (tC gp q rl (p + 1) y3) 8 (pointer (some ⟨rs, 0, none⟩)) := t8 h83
    have er : qIb fn (tC gp q rl (p + 1) y3) #[15] (qDQ Tryz.f14 6) (cB Tryz.f14) D0 .ready = rc Tryz.f14 fn gp q rl rs (p + 1) y3 D0 := by unfold rc; rw [← et]
    rw [er]
    generalize hRx : qIb fn (tC gp q rl (p + 1) y3) #[15] (qDQ Tryz.f14 6) (cB Tryz.f14) D0 .exhausted = Rx
    have s4 := s3.ins hl (.loop (rc Tryz.f14 fn gp q rl rs (p + 1) y3 D0)) k0
    rw [qDY, e3] at s4
    have g3l : g3 l = none := qJ (by rw [← e3]; exact s3.l k0) hl
    have l4 := qb (o := .loop (rc Tryz.f14 fn gp q rl rs (p + 1) y3 D0)) g3l
    have KK : K0 (g3.ins l (.loop (rc Tryz.f14 fn gp q rl rs (p + 1) y3 D0))) l rb rg rl rs q gp (rc Tryz.f14 fn gp q rl rs (p + 1) y3 D0) (slice p0 ids.length c0) false :=
      { lo := by unfold Heap.ins; rw [if_pos rfl], ab := Ab.le l4, ag := (Ag.le l3).le l4, al := ((Al.le l2).le l3).le l4, bs := ((As.le l2).le l3).le l4,
        n1 := ⟨Ne.symm ((Al.le l2).ne gB), Ne.symm ((As.le l2).ne gB)⟩, n2 := ⟨Ne.symm (Al.ne gG), Ne.symm (As.ne gG)⟩, n3 := ne1 }
    generalize g3.ins l (.loop (rc Tryz.f14 fn gp q rl rs (p + 1) y3 D0)) = g4 at *
    refine qXF D n1 n2 n3 n4 (s := s) (ids := ids) (sm := false) ⟨s4, w.mv (qG _ _ (Ne.symm D.ki)) (qG _ _ (Ne.symm D.kj)), p0, c0, by rw [qI]; exact KK, by rw [qG _ _ D.km]; exact O⟩ hn fun H5 gs5 C5 o5 => ?_
    obtain ⟨s5, w5, p5, c5, K5, O5⟩ := C5
    refine ⟨s5.l k0 _ _ K5.lo, ?_⟩
    have s6 := s5.put (.loop Rx) K5.lo
    have K6 := K5.put Rx
    have w6 : GB B (qX gs5 k0 ((gs5 k0).ins l (.loop Rx))) i j gp lp q (qi (qf s.S 2) s).2 := w5.mv (qG _ _ (Ne.symm D.ki)) (qG _ _ (Ne.symm D.kj))
    have O6 : OwnL qJV (qX gs5 k0 ((gs5 k0).ins l (.loop Rx)) m) [.int .i64 0] p5 c5 (qK .i64 (ids ++ (qi (qf s.S 2) s).1)) := by rw [qG _ _ D.km]; exact O5
    have A6 : At (qX gs5 k0 ((gs5 k0).ins l (.loop Rx)) k0) rl [slice p5 (ids ++ (qi (qf s.S 2) s).1).length c5] := by rw [qI]; exact K6.al
    have B6 : At (qX gs5 k0 ((gs5 k0).ins l (.loop Rx)) k0) rs [.bool (false || qO6 (qi (qf s.S 2) s).1)] := by rw [qI]; exact K6.bs
    have o6 : OutN gs0 (qX gs5 k0 ((gs5 k0).ins l (.loop Rx))) i j k0 m n := o.trans fun z h1 h2 h3 h4 h5 => by rw [qG _ _ h3, o5 z h1 h2 h3 h4 h5, qG _ _ h3]
    generalize qX gs5 k0 ((gs5 k0).ins l (.loop Rx)) = gs6 at *
    refine CE.seq (CE.reg (by kernel_rfl) (qc9 h83 ⟨_, (B6.le (s6.l k0)).cell rfl, fun y4 h21 => ?_⟩))
    rw [qDS] at k
    cases hps : (qi (qf s.S 2) s).1 with
    | nil =>
      rw [hps] at h21 A6 O6
      rw [if_pos hps] at k
      refine CE.cond (b := true) h21 (Br.yes rfl (CE.exit (qTr (by decide) ?_)))
      refine k y4 _ gs6 ⟨s6, ?_, p5, c5, A6, O6⟩ o6
      rw [(qQU hps).2] at w6
      exact w6
    | cons v0 r0 =>
      rw [if_neg (by rw [hps]; simp)] at k
      rw [hps] at h21
      refine CE.cond (b := false) h21 (Br.no rfl (CE.skip ?_))
      obtain ⟨ok2, e2⟩ := qMy (qf s.S 2) ok
      have hl0 : 0 < (qi (qf s.S 2) s).1.length := by rw [hps]; simp
      refine qQL D n1 n2 n3 n4 f ok2 (by omega) (by rw [List.length_append]; omega) (by omega) (by omega) ⟨s6, w6, p5, c5, A6, O6⟩ o6 fun y' H' gs' C' o' => ?_
      have := k y' H' gs' (by rw [← List.append_assoc]; exact C') o'
      dsimp only at this
      rw [show p + 1 + ((qDS f (qi (qf s.S 2) s).2).2.1 : Int) = p + (((qDS f (qi (qf s.S 2) s).2).2.1 + 1 : Nat) : Int) by omega]
      exact this
theorem qR1 (D : Dst i j k0 m) (n1 : n ≠ i) (n2 : n ≠ j) (n3 : n ≠ k0) (n4 : n ≠ m) {H : Heap} {gs : Nat → Heap} {s : Ub} (sp0 : SepF B H gs) (w : GB B gs i j gp lp q s) (f : Nat) (hf : (qf s.S 2).length < f) (hn : f ≤ 1000000) {K : Value → Heap → Prop}
    (k : ∀ H' gs' a c, SepF B H' gs' → GB B gs' i j gp lp q (qDS f s).2.2 → OwnL qJV (gs' m) [.int .i64 0] a c (qK .i64 (qDS f s).1) → OutN gs gs' i j k0 m n → K (tuple #[slice a (qDS f s).1.length c, .int .i64 ((qDS f s).2.1 : Int)]) H') :
    CallA Tryz.prog qHP [pointer (some ⟨gp, 0, none⟩), pointer (some ⟨q, 0, none⟩)] H K := by
  refine CallA.of_CE Tryz.func14 qYr (fun _ _ => Tryz.call14 _ _) (by kernel_rfl) ?_
  have ep : qMJ (Tryz.f14).ntmps [pointer (some ⟨gp, 0, none⟩), pointer (some ⟨q, 0, none⟩)] = sp 24 [(0, pointer (some ⟨gp, 0, none⟩)), (1, pointer (some ⟨q, 0, none⟩))] := by kernel_rfl
  rw [ep]
  unfold cC
  refine CE.seq (CE.reg (by kernel_rfl) (Eq.mpr cy0 ?_))
  refine CE.scope (CE.seq (CE.reg (by kernel_rfl) (Eq.mpr cy1 (sp0.box k0 fun rl H1 g1 s1 A1 l1 hr1 => ?_)))) fun l t h g => ?_
  · refine CE.seq (CE.reg (by kernel_rfl) (qc2 fun y => CE.seq (CE.label (CE.seq (CE.block (CE.loop f (qQL D n1 n2 n3 n4 (gs0 := gs) f (s := s) (ids := []) w.b.1 hf (by simp; omega) (by omega) (by omega) ⟨s1, w.mv (qG _ _ (Ne.symm D.ki)) (qG _ _ (Ne.symm D.kj)), none, 0, by rw [qI]; exact A1, .nil _ _ _⟩ (fun z h1 h2 h3 h4 h5 => qG _ _ h3) fun y' H' gs' C' o' => qOO ?_)))))))
    obtain ⟨s', w', p', c', A', O'⟩ := C'
    rw [Int.zero_add]
    refine CE.seq (CE.reg (by kernel_rfl) (qZD ⟨_, _, _, (A'.le (s'.l k0)).cell rfl, Ret.mk (k H' gs' p' c' s' w' O' o')⟩ fun t h => CE.ret ⟨.inr rfl, h⟩))
  · obtain ⟨h, _⟩ := g
    rcases h with h | h <;> cases h
end
end Go.Proofs.YtgjeecaombnmiaaGreat

/- Lists of Ids held against each other. -/
namespace Go.Proofs.YtgjeecaombnmiaaGreat
open Go Go.Sy Go.Value
set_option linter.unusedVariables false
set_option linter.unusedSimpArgs false

section
variable {K : Value → Heap → Prop} {h : Heap}
theorem qSS {a b : Option Addr} {la lb : List Int} {n ac bc : Nat} (Ia : Ints .i64 h a la) (Ib : Ints .i64 h b lb) (ha : la.length = n) (hb : lb.length = n) (hs : n ≤ 1099511627776) :
    ∀ (m j : Nat), m + j = n → Ret h K (.bool (decide (la.drop j = lb.drop j))) → qF7 a n ac b n bc j h K := by
  intro m
  induction m with
  | zero =>
    intro j hj k
    refine qJp _ _ _ _ _ _ _ _ _ ?_
    unfold qG4
    refine Br.no (by simp; omega) ?_
    rw [List.drop_eq_nil_of_le (by omega), List.drop_eq_nil_of_le (by omega)] at k
    exact k
  | succ m ih =>
    intro j hj k
    refine qJp _ _ _ _ _ _ _ _ _ ?_
    unfold qG4
    have ea : la[j]? = some la[j] := List.getElem?_eq_getElem (by omega)
    have eb : lb[j]? = some lb[j] := List.getElem?_eq_getElem (by omega)
    rw [List.drop_eq_getElem_cons (by omega : j < la.length), List.drop_eq_getElem_cons (by omega : j < lb.length)] at k
    refine Br.yes (by simp; omega) (ix Ia ha rfl ea (ix Ib hb rfl eb ?_))
    refine Br.intro (fun e => ?_) (fun e => ?_)
    · have : la[j] ≠ lb[j] := by simpa using e
      rw [decide_eq_false (fun x => this (List.cons.inj x).1)] at k
      exact k
    · have e : la[j] = lb[j] := by simpa using e
      rw [qO (by omega) (by omega)]
      refine ih (j + 1) (by omega) ?_
      have e0 : ∀ (a b : Int) (x y : List Int), a = b → ((a :: x = b :: y) ↔ x = y) := by rintro a _ x y rfl; simp
      have := e0 _ _ (la.drop (j + 1)) (lb.drop (j + 1)) e
      rw [decide_eq_decide.2 this] at k
      exact k
theorem qSC {a b : Option Addr} {la lb : List Int} {n m ac bc : Nat} (Ia : Ints .i64 h a la) (Ib : Ints .i64 h b lb) (ha : la.length = n) (hb : lb.length = m) (hs : n ≤ 1099511627776) (k : K (.bool (decide (la = lb))) h) :
    CallA Tryz.prog qIZ [slice a n ac, slice b m bc] h K := by
  refine qP2 _ _ _ _ _ _ _ _ ?_
  unfold qLL
  refine Br.intro (fun e => ?_) (fun e => ?_)
  · have : n ≠ m := fun x => by rw [x] at e; simp at e
    rw [decide_eq_false (fun x => this (by rw [← ha, ← hb, x]))] at k
    exact Ret.mk k
  · have e : n = m := by
      have : ((n : Nat) : Int) = (m : Int) := by simpa using e
      omega
    subst e
    refine qSS Ia Ib ha hb hs n 0 (by omega) (Ret.mk ?_)
    rw [List.drop_zero, List.drop_zero]
    exact k
end
end Go.Proofs.YtgjeecaombnmiaaGreat

/- Calls of a guard, and of a book, that are parts of the heap. -/
namespace Go.Proofs.YtgjeecaombnmiaaGreat
open Go Go.Sy Go.Value
set_option linter.unusedVariables false
set_option linter.unusedSimpArgs false

section
variable {P : Program} {fn : FuncId} {args : List Value} {B H : Heap} {gs : Nat → Heap} {K : Value → Heap → Prop} {i j k0 gp lp q : Nat} {s : Ub}
theorem GB.on {u' : Gu} {Q : Value → Prop} (sp : SepF B H gs) (W : GB B gs i j gp lp q s) (hij : i ≠ j) (c : ∀ f : GuF, f.g = gp → f.p = lp → GD B (sup B (gs i)) f s.u → CallA P fn args (sup B (gs i)) fun v h' => (∃ f' : GuF, f'.g = gp ∧ f'.p = lp ∧ GD B h' f' u') ∧ Q v)
    (k : ∀ v H' gs', SepF B H' gs' → (∀ m, m ≠ i → gs' m = gs m) → GB B gs' i j gp lp q ⟨u', s.S⟩ → Q v → K v H') : CallA P fn args H K := by
  obtain ⟨f, eg, ep, G⟩ := W.g
  refine sp.callB i ((c f eg ep G).mono fun v h' ⟨⟨f', eg', ep', G'⟩, hq⟩ => ⟨G'.toGR.b, fun H' g' e' s' => k v H' _ s' (fun m hm => qG _ _ hm) ⟨⟨f', eg', ep', ?_⟩, ?_⟩ hq⟩)
  · rw [qI, ← e']; exact G'
  · rw [qG _ _ (Ne.symm hij)]; exact W.b
theorem GB.onb {S' : Bk} {Q : Value → Prop} (sp : SepF B H gs) (W : GB B gs i j gp lp q s) (hij : i ≠ j) (c : PB (gs j) q s.S → CallA P fn args (gs j) fun v h' => PB h' q S' ∧ Q v)
    (k : ∀ v H' gs', SepF B H' gs' → (∀ m, m ≠ j → gs' m = gs m) → GB B gs' i j gp lp q ⟨s.u, S'⟩ → Q v → K v H') : CallA P fn args H K := by
  refine sp.call j ((c W.b).mono fun v g' ⟨B', hq⟩ H' s' => k v H' _ s' (fun m hm => qG _ _ hm) ⟨?_, ?_⟩ hq)
  · rw [qG _ _ hij]; exact W.g
  · rw [qI]; exact B'
end
section
variable {B H : Heap} {gs : Nat → Heap} {K : Value → Heap → Prop} {i j k0 gp lp q : Nat} {s : Ub}
theorem GB.ledger (sp : SepF B H gs) (W : GB B gs i j gp lp q s) (hij : i ≠ j) (k : ∀ H' gs', SepF B H' gs' → (∀ m, m ≠ i → gs' m = gs m) → GB B gs' i j gp lp q s → K (pointer (some ⟨lp, 0, none⟩)) H') :
    CallA Tryz.prog qCC [pointer (some ⟨gp, 0, none⟩)] H K :=
  GB.on (u' := s.u) (Q := fun v => v = pointer (some ⟨lp, 0, none⟩)) sp W hij (fun f eg ep G => by subst eg ep; exact qT6 G.toGR ⟨⟨f, rfl, rfl, G⟩, rfl⟩) fun v H' gs' s' o' W' e => by subst e; exact k H' gs' s' o' W'
theorem GB.get (sp : SepF B H gs) (W : GB B gs i j gp lp q s) (hij : i ≠ j) {m c : Int} (k : ∀ H' gs', SepF B H' gs' → (∀ m, m ≠ i → gs' m = gs m) → GB B gs' i j gp lp q s → K (.int .i64 (qEq s.u.S m c)) H') :
    CallA Tryz.prog qCB [pointer (some ⟨lp, 0, none⟩), .int .i64 m, .int .i64 c] H K :=
  GB.on (u' := s.u) (Q := fun v => v = .int .i64 (qEq s.u.S m c)) sp W hij (fun f eg ep G => by subst eg ep; exact qQY G.W.LA ⟨⟨f, rfl, rfl, G⟩, rfl⟩) fun v H' gs' s' o' W' e => by subst e; exact k H' gs' s' o' W'
theorem GB.state (sp : SepF B H gs) (W : GB B gs i j gp lp q s) (hij : i ≠ j) {id : Int} (k : ∀ H' gs', SepF B H' gs' → (∀ m, m ≠ j → gs' m = gs m) → GB B gs' i j gp lp q s → K (.int .i64 (qBX s.S id)) H') :
    CallA Tryz.prog qD7 [pointer (some ⟨q, 0, none⟩), .int .i64 id] H K :=
  GB.onb (S' := s.S) (Q := fun v => v = .int .i64 (qBX s.S id)) sp W hij (fun P => by
    obtain ⟨ok, l, c, mr, Bk⟩ := P
    exact qR9 Bk ⟨⟨ok, l, c, mr, Bk⟩, rfl⟩) fun v H' gs' s' o' W' e => by subst e; exact k H' gs' s' o' W'
theorem GB.all (sp : SepF B H gs) (W : GB B gs i j gp lp q s) {n : Nat} (n1 : n ≠ i) (n2 : n ≠ j) {t : Int} (k : ∀ H' gs' a c, SepF B H' gs' → (∀ m, m ≠ n → gs' m = gs m) → GB B gs' i j gp lp q s → Ints .i64 (gs' n) a (qf s.S t) → K (slice a (qf s.S t).length c) H') :
    CallA Tryz.prog qCf [pointer (some ⟨q, 0, none⟩), .int .i64 t] H K := by
  refine sp.call j (qTn W.b fun g1 a c1 l1 O1 H1 s1 => ?_)
  have I1 : Ints .i64 (sup (gs n) (rest (gs j) g1)) a (qf s.S t) := qPH (fun r o e1 e2 => by
    have := s1.dj j n (Ne.symm n2) r o (by rw [qI]; exact e1)
    rwa [qG _ _ n2] at this) O1
  exact k H1 _ a c1 (s1.give l1 n2) (fun m hm => qG _ _ hm) (W.mv (qG _ _ (Ne.symm n1)) (qG _ _ (Ne.symm n2))) (by rw [qI]; exact I1)
end
end Go.Proofs.YtgjeecaombnmiaaGreat

/- The first question of settlement. -/
namespace Go.Proofs.YtgjeecaombnmiaaGreat
open Go Go.Sy Go.Value
set_option linter.unusedVariables false
set_option linter.unusedSimpArgs false

def sT : List Cur := [⟨⟨#[69, 85, 82]⟩, 10000, 0⟩, ⟨⟨#[85, 83, 68]⟩, 12500, 0⟩]
def sD : List Dl := [⟨7, 0, 1, 0, 1, 100, 80⟩, ⟨8, 0, 1, 0, 1, 1, 1⟩]
def sI : List Pst := [⟨0, 0, 100⟩, ⟨1, 1, 80⟩]
def sX (r r1 r2 r3 r4 r5 : Nat) : Bnk := ⟨some ⟨r, 0, none⟩, 2, some ⟨r3, 0, none⟩, 2, some ⟨r4, 0, none⟩, 2, some ⟨r5, 0, none⟩, 2, sT, [⟨some ⟨r1, 0, none⟩, 2, ⟨[0, 0], 0⟩⟩, ⟨some ⟨r2, 0, none⟩, 2, ⟨[0, 0], 0⟩⟩], sD, sI⟩
def sb0 : Ub := ⟨sI.foldl inS (Gu.judge ⟨qAz 2 2, sT, [⟨[0, 0], 0⟩, ⟨[0, 0], 0⟩], List.replicate 2 false⟩), sD.foldl qV3 ⟨2, 2, [], 0⟩⟩
def sb1 : Ub := (qAv sb0 9).2
def sb2 : Ub := (qDS 3 sb1).2.2
def sb3 : Ub := (qAv sb2 7).2
def sb4 : Ub := (qAv sb3 8).2
theorem qYd (r r1 r2 r3 r4 r5 : Nat) : qJC (sX r r1 r2 r3 r4 r5) = sb0 := by kernel_rfl
theorem qXS (r r1 r2 r3 r4 r5 : Nat) : qOr sT (qAz 2 2) (sX r r1 r2 r3 r4 r5).L = 0 := by kernel_rfl
theorem qYy : (qAv sb0 9).1 = 5 := by decide +kernel
theorem qY7 : (qf sb1.S 2).length < 3 := by decide +kernel
theorem qX2 : (qDS 3 sb1).1 = [7] := by decide +kernel
theorem qY2 : (qDS 3 sb1).2.1 = 2 := by decide +kernel
theorem qY1 : (qAv sb2 7).1 = 7 := by decide +kernel
theorem qZB : (qAv sb3 8).1 = 10 := by decide +kernel
theorem qY3 : qEq sb4.u.S 0 1 = 80 := by decide +kernel
theorem qY0 : qEq sb4.u.S 1 0 = 100 := by decide +kernel
theorem iz (a : Int) (h1 : -1000 ≤ a) (h2 : a ≤ 1000) : I64 a := by unfold I64; omega
theorem qYs {h : Heap} {r r1 r2 r3 r4 r5 : Nat} (a : At h r (qFU sT)) (a1 : At h r1 [.int .i64 0, .int .i64 0]) (a2 : At h r2 [.int .i64 0, .int .i64 0]) (a3 : At h r3 [.slice (some ⟨r1, 0, none⟩) 2 2, .int .i64 0, .slice (some ⟨r2, 0, none⟩) 2 2, .int .i64 0])
    (a4 : At h r4 (sD.flatMap dV)) (a5 : At h r5 (poV sI)) : BnkAt h (sX r r1 r2 r3 r4 r5) where
  t := At.toRd (ws := []) (by rw [List.append_nil]; exact a)
  l := At.toRd (ws := []) a3
  lI := fun y hy => by
    have e : y = ⟨some ⟨r1, 0, none⟩, 2, ⟨[0, 0], 0⟩⟩ ∨ y = ⟨some ⟨r2, 0, none⟩, 2, ⟨[0, 0], 0⟩⟩ := by simpa [sX] using hy
    have z : ∀ x ∈ [(0 : Int), 0], I64 x := fun x hx => by
      simp only [List.mem_cons, List.not_mem_nil, or_false] at hx
      rcases hx with rfl | rfl <;> exact iz _ (by decide) (by decide)
    rcases e with rfl | rfl
    · exact ⟨At.toRd (ws := []) a1, z, iz 0 (by decide) (by decide)⟩
    · exact ⟨At.toRd (ws := []) a2, z, iz 0 (by decide) (by decide)⟩
  d := At.toRd (ws := []) a4
  dI := fun y hy => by
    have e : y = ⟨7, 0, 1, 0, 1, 100, 80⟩ ∨ y = ⟨8, 0, 1, 0, 1, 1, 1⟩ := by simpa [sX, sD] using hy
    rcases e with rfl | rfl <;> (unfold qQ3; dsimp only; omega)
  i := At.toRd (ws := []) a5
  iI := fun y hy => by
    have e : y = ⟨0, 0, 100⟩ ∨ y = ⟨1, 1, 80⟩ := by simpa [sX, sI] using hy
    rcases e with rfl | rfl <;> (unfold I64; dsimp only; omega)
theorem qPr {h : Heap} {K : Value → Heap → Prop} (k : ∀ h', h.le h' → K (.bool true) h') : CallA Tryz.prog qHz [] h K := by
  refine qPn _ _ ?_
  unfold qKb
  refine ql fun r h1 hr l1 A => ql fun r1 h2 z1 l2 A1 => ql fun r2 h3 z2 l3 A2 => ql fun r3 h4 z3 l4 A3 => ql fun r4 h5 z4 l5 A4 => ql fun r5 h6 z5 l6 A5 => ql fun r6 h7 z6 l7 A6 => ⟨A6.canSt (by simp), ?_⟩
  have L6 : h.le h6 := Heap.le_trans l1 (Heap.le_trans l2 (Heap.le_trans l3 (Heap.le_trans l4 (Heap.le_trans l5 l6))))
  have lB := qS (o := 0) (ws := [slice (some ⟨r, 0, none⟩) 2 2, slice (some ⟨r3, 0, none⟩) 2 2, slice (some ⟨r4, 0, none⟩) 2 2, slice (some ⟨r5, 0, none⟩) 2 2]) l7 z6
  have AX : At (h7.setN r6 0 [slice (some ⟨r, 0, none⟩) 2 2, slice (some ⟨r3, 0, none⟩) 2 2, slice (some ⟨r4, 0, none⟩) 2 2, slice (some ⟨r5, 0, none⟩) 2 2]) r6 [slice (some ⟨r, 0, none⟩) 2 2, slice (some ⟨r3, 0, none⟩) 2 2, slice (some ⟨r4, 0, none⟩) 2 2, slice (some ⟨r5, 0, none⟩) 2 2] := A6.set (o := 0) (ws := [slice (some ⟨r, 0, none⟩) 2 2, slice (some ⟨r3, 0, none⟩) 2 2, slice (some ⟨r4, 0, none⟩) 2 2, slice (some ⟨r5, 0, none⟩) 2 2])
  have lk : h.le (h7.setN r6 0 [slice (some ⟨r, 0, none⟩) 2 2, slice (some ⟨r3, 0, none⟩) 2 2, slice (some ⟨r4, 0, none⟩) 2 2, slice (some ⟨r5, 0, none⟩) 2 2]) := Heap.le_trans L6 lB
  generalize h7.setN r6 0 [slice (some ⟨r, 0, none⟩) 2 2, slice (some ⟨r3, 0, none⟩) 2 2, slice (some ⟨r4, 0, none⟩) 2 2, slice (some ⟨r5, 0, none⟩) 2 2] = B at *
  have X : BnkAt B (sX r r1 r2 r3 r4 r5) := (qYs (((((A.le l2).le l3).le l4).le l5).le l6) ((((A1.le l3).le l4).le l5).le l6) (((A2.le l4).le l5).le l6) ((A3.le l5).le l6) (A4.le l6) A5).le lB
  refine ⟨_, _, _, AX.cell rfl, _, _, _, AX.cell rfl, _, _, _, AX.cell rfl, _, _, _, AX.cell rfl, ?_⟩
  have D12 : Dst 1 2 3 4 := ⟨by decide, by decide, by decide, by decide, by decide, by decide⟩
  refine qQ7 (x := sX r r1 r2 r3 r4 r5) (SepF.start B) X (i := 1) (j := 2) (k0 := 3) (by decide) (by decide) (by decide) (fun g => (g ⟨show 2 ≤ 30 ∧ 2 ≤ 30 by decide, show 1 ≤ 2 ∧ 2 ≤ 16 by decide, show 1 ≤ 2 ∧ 2 ≤ 8 by decide, qXS ..⟩).elim) fun _ H0 gs0 gp lp q s0 _ W0 => ⟨_, _, rfl, Br.no rfl (Br.no rfl ?_)⟩
  rw [qYd] at W0
  refine W0.ledger s0 (by decide) fun H1 gs1 s1 _ W1 => ⟨_, rfl, Br.no rfl ?_⟩
  refine qPw s1 W1 (k0 := 3) (by decide) (by decide) (by decide) (id := 9) fun H2 gs2 s2 _ W2 => ⟨_, rfl, ?_⟩
  have W2 : GB B gs2 1 2 gp lp q sb1 := W2
  refine qR1 D12 (n := 5) (by decide) (by decide) (by decide) (by decide) s2 W2 3 qY7 (by decide) fun H3 gs3 a3 c3 s3 W3 O3 _ => ⟨_, _, _, _, rfl, ?_⟩
  have W3 : GB B gs3 1 2 gp lp q sb2 := W3
  refine qPw s3 W3 (k0 := 3) (by decide) (by decide) (by decide) (id := 7) fun H4 gs4 s4 o4 W4 => ⟨_, rfl, ?_⟩
  have W4 : GB B gs4 1 2 gp lp q sb3 := W4
  refine qPw s4 W4 (k0 := 3) (by decide) (by decide) (by decide) (id := 8) fun H5 gs5 s5 o5 W5 => ⟨_, rfl, ?_⟩
  have W5 : GB B gs5 1 2 gp lp q sb4 := W5
  have A4' := (((A4.le l6).le lB).le s5.b)
  refine ⟨_, _, _, (AX.le s5.b).cell rfl, by decide, by decide, qB rfl ⟨_, A4'.cell rfl, _, A4'.cell rfl, _, A4'.cell rfl, _, A4'.cell rfl, _, A4'.cell rfl, _, A4'.cell rfl, _, A4'.cell rfl, ?_⟩⟩
  refine qUa (d := ⟨7, 0, 1, 0, 1, 100, 80⟩) (by decide) (by decide) fun r7 H6 hr7 l6' _ => ⟨_, _, _, rfl, Br.yes rfl (Br.yes (by rw [qYy]; rfl) ?_)⟩
  refine ql fun r8 H7 hr8 l7' A8 => ?_
  have s7 := s5.le (Heap.le_trans l6' l7')
  have I3 : Ints .i64 H7 a3 (qDS 3 sb1).1 := by
    have := O3.rd
    rw [← o4.o 4 (by decide) (by decide) (by decide), ← o5.o 4 (by decide) (by decide) (by decide)] at this
    exact qAV (s7.l 4) this
  refine qSC (lb := [7]) I3 (At.toRd (ws := []) A8) rfl rfl (by rw [qX2]; decide) ⟨_, rfl, ?_⟩
  refine Br.yes (decide_eq_true qX2) (Br.yes (by rw [qY2]; rfl) (Br.yes (by rw [qY1]; rfl) (Br.yes (by rw [qZB]; rfl) ?_)))
  refine W5.ledger s7 (by decide) fun H8 gs8 s8 _ W8 => ⟨_, rfl, W8.get s8 (by decide) fun H9 gs9 s9 _ W9 => ⟨_, rfl, Br.yes (by rw [qY3]; rfl) ?_⟩⟩
  refine W9.ledger s9 (by decide) fun H10 gs10 s10 _ W10 => ⟨_, rfl, W10.get s10 (by decide) fun H11 gs11 s11 _ W11 => ⟨_, rfl, Ret.mk ?_⟩⟩
  rw [qY0]
  exact k H11 (Heap.le_trans lk s11.b)
end Go.Proofs.YtgjeecaombnmiaaGreat

/- Settlement, plainly: which errors there may be. -/
namespace Go.Proofs.YtgjeecaombnmiaaGreat
open Go Go.Sy Go.Value
set_option linter.unusedVariables false
set_option linter.unusedSimpArgs false

theorem qN5 (u : Gu) (b : List Pst) : (qCL u b).2.fl = u.fl ∧ (qCL u b).2.T = u.T ∧ (qCL u b).2.L = u.L := by
  unfold qCL
  repeat' split
  all_goals exact ⟨rfl, rfl, rfl⟩
theorem qRg (S : Bk) (id : Int) : (qBd S id).2.mem = S.mem ∧ (qBd S id).2.cur = S.cur := by
  unfold qBd
  repeat' split
  all_goals exact ⟨rfl, rfl⟩
theorem qNC (S : Bk) (d : Dl) : (qC6 S d).2.2.mem = S.mem ∧ (qC6 S d).2.2.cur = S.cur := by
  unfold qC6
  repeat' split
  all_goals exact ⟨rfl, rfl⟩
theorem qVY (u : Gu) (m c a : Int) : (rIn u m c a).2.fl.length = u.fl.length ∧ (rIn u m c a).2.T = u.T ∧ (rIn u m c a).2.L = u.L := by
  unfold rIn
  repeat' split
  all_goals first | exact ⟨rfl, rfl, rfl⟩ | exact ⟨List.length_set, rfl, rfl⟩
structure Ub.Fit (s : Ub) : Prop where
  m : s.S.mem = (s.u.fl.length : Int)
  c : s.S.cur = (s.u.T.length : Int)
theorem Ub.Fit.try {s : Ub} (F : s.Fit) (id : Int) : (qAv s id).2.Fit := by
  unfold qAv
  repeat' split
  · exact F
  · exact F
  · exact F
  · obtain ⟨h1, h2, _⟩ := qN5 s.u (qBs (qo s.S id).1)
    obtain ⟨h3, h4⟩ := qRg s.S id
    exact ⟨by dsimp only; rw [h3, h1]; exact F.m, by dsimp only; rw [h4, h2]; exact F.c⟩
theorem qT5 (T : List Cur) {n w : Nat} (ls : List LmV) : (qRI T (qAz n w) ls).fl.length = n := by
  show (List.map _ (List.range (List.replicate (qAz n w).M.length false).length)).length = n
  rw [List.length_map, List.length_range, List.length_replicate]
  unfold qAz
  rw [List.length_replicate]
theorem qLu (x : Bnk) : ∀ n, (qGj x n).fl.length = x.L.length ∧ (qGj x n).T = x.T
  | 0 => ⟨qT5 _ _, rfl⟩
  | n + 1 => by
    have ih := qLu x n
    cases h : x.I[n]? with
    | none =>
      have : qGj x (n + 1) = qGj x n := by
        unfold qGj
        rw [List.take_add_one, h]
        simp
      rw [this]; exact ih
    | some y =>
      rw [qO9 h]
      obtain ⟨h1, h2, _⟩ := qVY (qGj x n) y.m y.c y.a
      exact ⟨h1.trans ih.1, h2.trans ih.2⟩
theorem qMF (x : Bnk) : ∀ n, (qDl x n).mem = (x.L.length : Int) ∧ (qDl x n).cur = (x.T.length : Int)
  | 0 => ⟨rfl, rfl⟩
  | n + 1 => by
    have ih := qMF x n
    cases h : x.D[n]? with
    | none =>
      have : qDl x (n + 1) = qDl x n := by
        unfold qDl
        rw [List.take_add_one, h]
        simp
      rw [this]; exact ih
    | some y =>
      rw [qL2 h]
      have h1 := qNC (qDl x n) y
      have h2 := qNC (qC6 (qDl x n) y).2.2 (qJ8 y)
      exact ⟨h2.1.trans (h1.1.trans ih.1), h2.2.trans (h1.2.trans ih.2)⟩
theorem qUs (x : Bnk) : (qJC x).Fit := ⟨by
  show (qDl x _).mem = ((qGj x _).fl.length : Int)
  rw [(qMF x _).1, (qLu x _).1], by
  show (qDl x _).cur = ((qGj x _).T.length : Int)
  rw [(qMF x _).2, (qLu x _).2]⟩
/-! ### legs -/
theorem qUY {s : Ub} (ok : s.S.Ok) (F : s.Fit) (uo : s.u.Ok) (id : Int) : qAj s.u.S (qBs (qo s.S id).1) =
    if (qAK (qBs (qo s.S id).1) s.u.S.M).1 ≠ 0 then ((qAK (qBs (qo s.S id).1) s.u.S.M).1, s.u.S) else (0, ⟨(qAK (qBs (qo s.S id).1) s.u.S.M).2, s.u.S.N, s.u.S.cur⟩) := by
  have hn := (qJ7 ok id).1
  have hm : s.S.mem = (s.u.S.M.length : Int) := by rw [F.m, uo.ef]
  have hc : s.S.cur = (s.u.S.cur : Int) := by rw [F.c, uo.ec]
  rw [hm, hc] at hn
  generalize (qo s.S id).1 = d at *
  have has : ∀ m c a, 0 ≤ m → m < (s.u.S.M.length : Int) → 0 ≤ c → c < (s.u.S.cur : Int) → (!qC5 s.u.S (Pst.mk m c a).m (Pst.mk m c a).c) = false := fun m c a h1 h2 h3 h4 => by
    unfold qC5
    rw [decide_eq_true ⟨h1, h2, h3, h4⟩]; rfl
  unfold qAj
  rw [if_neg, if_neg]
  · rw [Bool.not_eq_false]
    unfold qGe
    rw [List.all_eq_true]
    intro c _
    refine decide_eq_true ?_
    unfold qBU qBs
    by_cases h1 : d.sc = (c : Int) <;> by_cases h2 : d.bc = (c : Int) <;> simp [h1, h2, q5] <;> omega
  · rw [Bool.not_eq_true]
    unfold qBs
    rw [List.any_cons, List.any_cons, List.any_cons, List.any_cons, List.any_nil, has _ _ _ (by omega) (by omega) (by omega) (by omega), has _ _ _ (by omega) (by omega) (by omega) (by omega), has _ _ _ (by omega) (by omega) (by omega) (by omega), has _ _ _ (by omega) (by omega) (by omega) (by omega)]
    rfl
theorem qR6 {S : Bk} (ok : S.Ok) {id : Int} (h : id ∈ qf S 2) : ∃ x, x ∈ S.L ∧ x.d.id = id ∧ x.st = 2 ∧ qGL S id = some x := by
  have := (qNP ok 2).mem_iff.1 h
  obtain ⟨x, hx, e⟩ := List.mem_map.1 this
  unfold ofS at hx
  rw [List.mem_filter] at hx
  obtain ⟨i, hi⟩ := List.getElem?_of_mem hx.1
  exact ⟨x, hx.1, e, by simpa using hx.2, by rw [← e]; exact qWr ok hi⟩
theorem qPO {S : Bk} (ok : S.Ok) {id : Int} (h : id ∈ qf S 2) : (qo S id).2 = true ∧ qBX S id = 2 := by
  obtain ⟨x, _, _, hs, e⟩ := qR6 ok h
  unfold qo qBX
  rw [e]
  exact ⟨rfl, hs⟩
end Go.Proofs.YtgjeecaombnmiaaGreat

/- What is settled is booked: plainly. -/
namespace Go.Proofs.YtgjeecaombnmiaaGreat
open Go Go.Sy Go.Value
set_option linter.unusedVariables false
set_option linter.unusedSimpArgs false

theorem qSx {S : Bk} {w : Int} (h : qBX S w = 2) (id : Int) : ∃ x, qGL S w = some x ∧ qGL (qBd S w).2 id = if id = w then some { x with st := 3 } else qGL S id := by
  obtain ⟨i, x, hp, hx, hs, he, e⟩ := qLo h
  refine ⟨x, by unfold qGL; rw [hp]; exact hx, ?_⟩
  rw [e]
  unfold qGL
  dsimp only
  rw [qKo (y := { x with st := 3 }) hx rfl]
  by_cases g : id = w
  · subst g
    rw [if_pos rfl, hp]
    exact List.getElem?_set_self (List.getElem?_eq_some_iff.1 hx).1
  · rw [if_neg g]
    cases hq : qAf id S.L with
    | none => rfl
    | some k =>
      obtain ⟨y, hy, ey⟩ := qGt hq
      refine List.getElem?_set_ne fun hk => ?_
      subst hk
      rw [hx] at hy
      cases hy
      exact g (ey.symm.trans he)
theorem qH5 {S : Bk} {w : Int} (h : qBX S w = 2) (id : Int) : qo (qBd S w).2 id = qo S id ∧ qBX (qBd S w).2 id = if id = w then 3 else qBX S id := by
  obtain ⟨x, hx, e⟩ := qSx h id
  unfold qo qBX
  rw [e]
  by_cases g : id = w
  · subst g
    rw [if_pos rfl, if_pos rfl, hx]
    exact ⟨rfl, rfl⟩
  · rw [if_neg g, if_neg g]
    exact ⟨rfl, rfl⟩
theorem qVE {s : Ub} (ok : s.S.Ok) (w id : Int) : qo (qAv s w).2.S id = qo s.S id ∧ (qBX s.S id = 3 → qBX (qAv s w).2.S id = 3) ∧ ((qAv s w).1 = 0 → qBX (qAv s w).2.S w = 3) := by
  by_cases h : (qAv s w).1 = 0
  · obtain ⟨_, h2, _, h4⟩ := qOQ h
    rw [h4]
    dsimp only
    refine ⟨(qH5 h2 id).1, fun e => ?_, fun _ => by rw [(qH5 h2 w).2, if_pos rfl]⟩
    rw [(qH5 h2 id).2]
    split
    · rfl
    · exact e
  · rw [qOy w ok h]
    exact ⟨rfl, fun e => e, fun e => (h e).elim⟩
/-! ### legs, booked one behind the other -/
end Go.Proofs.YtgjeecaombnmiaaGreat
