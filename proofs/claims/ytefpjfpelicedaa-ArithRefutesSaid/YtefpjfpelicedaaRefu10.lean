/- Part 10 of 11 of what the proof of Refu needs. -/
import Derived.Test.YtefpjfpelicedaaRefu3
import Derived.Test.YtefpjfpelicedaaRefu4
import Derived.Test.YtefpjfpelicedaaRefu9
import Derived.Test.YtefpjfpelicedaaRefu8
section
/- Code with names for the bodies of loops: made by cut20.py. -/
set_option maxRecDepth 100000
namespace Go.PV.Ytefpjfpelicedaa
open Go Go.Proofs
def q20_1 : ACode := (.seq (.seq (.reg [⟨some 134, (.move (.tmp 14)), none⟩,
  ⟨some 135, (.move (.tmp 4)), none⟩,
  ⟨some 136, (.call { callee := (.builtin .len), args := #[(.tmp 135)], argTypes := #[22] }), none⟩,
  ⟨some 137, (.binOp .lss 3 (.tmp 134) (.tmp 136) 3), none⟩])
 (.cond (.tmp 137) .skip (.exit 12)))
 (.seq (.block 13 (.seq (.reg [⟨some 140, (.move (.tmp 4)), none⟩,
  ⟨some 141, (.move (.tmp 14)), none⟩,
  ⟨some 142, (.indexAddr 22 (.tmp 140) (.tmp 141)), none⟩,
  ⟨some 143, (.fieldAddr 39 (.tmp 142) 1), none⟩,
  ⟨some 144, (.load 3 (.tmp 143)), none⟩,
  ⟨some 145, (.binOp .lss 3 (.tmp 144) (.const (.int .i64 0)) 3), none⟩])
 (.cond (.tmp 145) (.seq (.reg [⟨some 2, (.assign (.const (.bool false))), none⟩])
 .ret) .skip)))
 (.reg [⟨some 138, (.move (.tmp 14)), none⟩,
  ⟨some 139, (.binOp .add 3 (.tmp 138) (.const (.int .i64 1)) 3), none⟩,
  ⟨some 14, (.assign (.tmp 139)), none⟩])))
def e20_7 : ACode := (.seqL (.seq (.reg [⟨some 14, (.assign (.const (.int .i64 0))), none⟩])
 (.block 12 (.loop q20_1)))
 c20_6)
def q20_2 : ACode := (.seq (.seq (.reg [⟨some 94, (.move (.tmp 13)), none⟩,
  ⟨some 95, (.move (.tmp 4)), none⟩,
  ⟨some 96, (.call { callee := (.builtin .len), args := #[(.tmp 95)], argTypes := #[22] }), none⟩,
  ⟨some 97, (.binOp .lss 3 (.tmp 94) (.tmp 96) 3), none⟩])
 (.cond (.tmp 97) .skip (.exit 10)))
 (.seq (.block 11 (.seq (.reg [⟨some 100, (.move (.tmp 4)), none⟩,
  ⟨some 101, (.move (.tmp 12)), none⟩,
  ⟨some 102, (.indexAddr 22 (.tmp 100) (.tmp 101)), none⟩,
  ⟨some 103, (.fieldAddr 39 (.tmp 102) 0), none⟩,
  ⟨some 104, (.load 37 (.tmp 103)), none⟩,
  ⟨some 105, (.move (.tmp 10)), none⟩,
  ⟨some 106, (.indexAddr 37 (.tmp 104) (.tmp 105)), none⟩,
  ⟨some 107, (.load 3 (.tmp 106)), none⟩,
  ⟨some 108, (.binOp .gtr 3 (.tmp 107) (.const (.int .i64 0)) 3), none⟩,
  ⟨some 109, (.move (.tmp 108)), none⟩,
  ⟨some 110, (.move (.tmp 4)), some (109, true)⟩,
  ⟨some 111, (.move (.tmp 13)), some (109, true)⟩,
  ⟨some 112, (.indexAddr 22 (.tmp 110) (.tmp 111)), some (109, true)⟩,
  ⟨some 113, (.fieldAddr 39 (.tmp 112) 0), some (109, true)⟩,
  ⟨some 114, (.load 37 (.tmp 113)), some (109, true)⟩,
  ⟨some 115, (.move (.tmp 10)), some (109, true)⟩,
  ⟨some 116, (.indexAddr 37 (.tmp 114) (.tmp 115)), some (109, true)⟩,
  ⟨some 117, (.load 3 (.tmp 116)), some (109, true)⟩,
  ⟨some 118, (.binOp .lss 3 (.tmp 117) (.const (.int .i64 0)) 3), some (109, true)⟩,
  ⟨some 119, (.pick (.tmp 109) (.tmp 118) (.const (.bool false))), none⟩])
 (.cond (.tmp 119) (.dreg (.tk ⟨some 120, (.move (.tmp 11)), none⟩
  (.tk ⟨some 121, (.move (.tmp 4)), none⟩
  (.tk ⟨some 122, (.move (.tmp 12)), none⟩
  (.tk ⟨some 123, (.indexAddr 22 (.tmp 121) (.tmp 122)), none⟩
  (.tk ⟨some 124, (.load 39 (.tmp 123)), none⟩
  (.tk ⟨some 125, (.move (.tmp 4)), none⟩
  (.tk ⟨some 126, (.move (.tmp 13)), none⟩
  (.tk ⟨some 127, (.indexAddr 22 (.tmp 125) (.tmp 126)), none⟩
  (.tk ⟨some 128, (.load 39 (.tmp 127)), none⟩
  (.tk ⟨some 129, (.move (.tmp 10)), none⟩
  (.one ⟨some 130, (.call { callee := (.value (.func 46)), args := #[(.tmp 124), (.tmp 128), (.tmp 129)], argTypes := #[39, 39, 3] }), none⟩
  (.cut ⟨some 131, (.buildSlice 22 1 #[(0, (.tmp 130))]), none⟩
  .fin)))))))))))) [⟨some 132, (.call { callee := (.builtin .append), args := #[(.tmp 120), (.tmp 131)], argTypes := #[22, 22] }), none⟩,
  ⟨some 11, (.assign (.tmp 132)), none⟩]) .skip)))
 (.reg [⟨some 98, (.move (.tmp 13)), none⟩,
  ⟨some 99, (.binOp .add 3 (.tmp 98) (.const (.int .i64 1)) 3), none⟩,
  ⟨some 13, (.assign (.tmp 99)), none⟩])))
def q20_3 : ACode := (.seq (.seq (.reg [⟨some 72, (.move (.tmp 12)), none⟩,
  ⟨some 73, (.move (.tmp 4)), none⟩,
  ⟨some 74, (.call { callee := (.builtin .len), args := #[(.tmp 73)], argTypes := #[22] }), none⟩,
  ⟨some 75, (.binOp .lss 3 (.tmp 72) (.tmp 74) 3), none⟩])
 (.cond (.tmp 75) .skip (.exit 8)))
 (.seqL (.block 9 (.seq (.seq (.reg [⟨some 78, (.move (.tmp 4)), none⟩,
  ⟨some 79, (.move (.tmp 12)), none⟩,
  ⟨some 80, (.indexAddr 22 (.tmp 78) (.tmp 79)), none⟩,
  ⟨some 81, (.fieldAddr 39 (.tmp 80) 0), none⟩,
  ⟨some 82, (.load 37 (.tmp 81)), none⟩,
  ⟨some 83, (.move (.tmp 10)), none⟩,
  ⟨some 84, (.indexAddr 37 (.tmp 82) (.tmp 83)), none⟩,
  ⟨some 85, (.load 3 (.tmp 84)), none⟩,
  ⟨some 86, (.binOp .eql 3 (.tmp 85) (.const (.int .i64 0)) 3), none⟩])
 (.cond (.tmp 86) (.reg [⟨some 87, (.move (.tmp 11)), none⟩,
  ⟨some 88, (.move (.tmp 4)), none⟩,
  ⟨some 89, (.move (.tmp 12)), none⟩,
  ⟨some 90, (.indexAddr 22 (.tmp 88) (.tmp 89)), none⟩,
  ⟨some 91, (.load 39 (.tmp 90)), none⟩,
  ⟨some 92, (.buildSlice 22 1 #[(0, (.tmp 91))]), none⟩,
  ⟨some 93, (.call { callee := (.builtin .append), args := #[(.tmp 87), (.tmp 92)], argTypes := #[22, 22] }), none⟩,
  ⟨some 11, (.assign (.tmp 93)), none⟩]) .skip))
 (.seq (.reg [⟨some 13, (.assign (.const (.int .i64 0))), none⟩])
 (.block 10 (.loop q20_2)))))
 c20_3))
def q20_4 : ACode := (.seq (.seq (.reg [⟨some 66, (.move (.tmp 10)), none⟩,
  ⟨some 67, (.move (.tmp 3)), none⟩,
  ⟨some 68, (.binOp .lss 3 (.tmp 66) (.tmp 67) 3), none⟩])
 (.cond (.tmp 68) .skip (.exit 6)))
 (.seqL (.block 7 (.seq (.reg [⟨some 71, (.buildSlice 22 0 #[]), none⟩,
  ⟨some 11, (.assign (.tmp 71)), none⟩])
 (.seqL (.seq (.reg [⟨some 12, (.assign (.const (.int .i64 0))), none⟩])
 (.block 8 (.loop q20_3)))
 c20_4)))
 c20_5))
def e20_8 : ACode := (.seqL (.seq (.reg [⟨some 10, (.assign (.const (.int .i64 0))), none⟩])
 (.block 6 (.loop q20_4)))
 e20_7)
def q20_5 : ACode := (.seq (.seq (.reg [⟨some 50, (.move (.tmp 8)), none⟩,
  ⟨some 51, (.move (.tmp 3)), none⟩,
  ⟨some 52, (.binOp .lss 3 (.tmp 50) (.tmp 51) 3), none⟩])
 (.cond (.tmp 52) .skip (.exit 4)))
 (.seq (.block 5 (.seq (.reg [⟨some 55, (.move (.tmp 3)), none⟩,
  ⟨some 56, (.makeSlice 37 (.tmp 55) (.tmp 55)), none⟩,
  ⟨some 57, (.build 39 #[(0, (.tmp 56))]), none⟩,
  ⟨some 9, (.alloc 39), none⟩,
  ⟨none, (.store 39 (.tmp 9) (.tmp 57)), none⟩])
 (.seq (.reg [⟨some 58, (.fieldAddr 39 (.tmp 9) 0), none⟩,
  ⟨some 59, (.load 37 (.tmp 58)), none⟩,
  ⟨some 60, (.move (.tmp 8)), none⟩,
  ⟨some 61, (.indexAddr 37 (.tmp 59) (.tmp 60)), none⟩,
  ⟨none, (.store 3 (.tmp 61) (.const (.int .i64 (-1)))), none⟩])
 (.reg [⟨some 62, (.move (.tmp 4)), none⟩,
  ⟨some 63, (.load 39 (.tmp 9)), none⟩,
  ⟨some 64, (.buildSlice 22 1 #[(0, (.tmp 63))]), none⟩,
  ⟨some 65, (.call { callee := (.builtin .append), args := #[(.tmp 62), (.tmp 64)], argTypes := #[22, 22] }), none⟩,
  ⟨some 4, (.assign (.tmp 65)), none⟩]))))
 (.reg [⟨some 53, (.move (.tmp 8)), none⟩,
  ⟨some 54, (.binOp .add 3 (.tmp 53) (.const (.int .i64 1)) 3), none⟩,
  ⟨some 8, (.assign (.tmp 54)), none⟩])))
def e20_9 : ACode := (.seqL (.seq (.reg [⟨some 8, (.assign (.const (.int .i64 0))), none⟩])
 (.block 4 (.loop q20_5)))
 e20_8)
def q20_6 : ACode := (.seq (.seq (.reg [⟨some 30, (.move (.tmp 7)), none⟩,
  ⟨some 31, (.move (.tmp 3)), none⟩,
  ⟨some 32, (.binOp .lss 3 (.tmp 30) (.tmp 31) 3), none⟩])
 (.cond (.tmp 32) .skip (.exit 2)))
 (.seq (.block 3 (.dreg (.tk ⟨some 35, (.fieldAddr 39 (.tmp 6) 0), none⟩
  (.tk ⟨some 36, (.load 37 (.tmp 35)), none⟩
  (.tk ⟨some 37, (.move (.tmp 0)), none⟩
  (.tk ⟨some 38, (.move (.tmp 5)), none⟩
  (.tk ⟨some 39, (.indexAddr 22 (.tmp 37) (.tmp 38)), none⟩
  (.tk ⟨some 40, (.load 39 (.tmp 39)), none⟩
  (.tk ⟨some 41, (.move (.tmp 7)), none⟩
  (.one ⟨some 42, (.call { callee := (.value (.func 45)), args := #[(.tmp 40), (.tmp 41)], argTypes := #[39, 3] }), none⟩
  (.one ⟨some 43, (.buildSlice 37 1 #[(0, (.tmp 42))]), none⟩
  .fin))))))))) [⟨some 44, (.call { callee := (.builtin .append), args := #[(.tmp 36), (.tmp 43)], argTypes := #[37, 37] }), none⟩,
  ⟨some 45, (.fieldAddr 39 (.tmp 6) 0), none⟩,
  ⟨none, (.store 37 (.tmp 45) (.tmp 44)), none⟩]))
 (.reg [⟨some 33, (.move (.tmp 7)), none⟩,
  ⟨some 34, (.binOp .add 3 (.tmp 33) (.const (.int .i64 1)) 3), none⟩,
  ⟨some 7, (.assign (.tmp 34)), none⟩])))
def q20_7 : ACode := (.seq (.seq (.reg [⟨some 18, (.move (.tmp 5)), none⟩,
  ⟨some 19, (.move (.tmp 0)), none⟩,
  ⟨some 20, (.call { callee := (.builtin .len), args := #[(.tmp 19)], argTypes := #[22] }), none⟩,
  ⟨some 21, (.binOp .lss 3 (.tmp 18) (.tmp 20) 3), none⟩])
 (.cond (.tmp 21) .skip (.exit 0)))
 (.seqL (.block 1 (.seq (.reg [⟨some 24, (.move (.tmp 0)), none⟩,
  ⟨some 25, (.move (.tmp 5)), none⟩,
  ⟨some 26, (.indexAddr 22 (.tmp 24) (.tmp 25)), none⟩,
  ⟨some 27, (.fieldAddr 39 (.tmp 26) 1), none⟩,
  ⟨some 28, (.load 3 (.tmp 27)), none⟩,
  ⟨some 29, (.build 39 #[(1, (.tmp 28))]), none⟩,
  ⟨some 6, (.alloc 39), none⟩,
  ⟨none, (.store 39 (.tmp 6) (.tmp 29)), none⟩])
 (.seqL (.seq (.reg [⟨some 7, (.assign (.const (.int .i64 0))), none⟩])
 (.block 2 (.loop q20_6)))
 c20_1)))
 c20_2))
def e20 : ACode := (.seq (.reg [⟨some 2, (.assign (.const (.bool false))), none⟩])
 (.seq (.reg [⟨some 15, (.move (.tmp 0)), none⟩,
  ⟨some 16, (.call { callee := (.value (.func 10)), args := #[(.tmp 15)], argTypes := #[22] }), none⟩,
  ⟨some 3, (.assign (.tmp 16)), none⟩])
 (.seq (.reg [⟨some 17, (.buildSlice 22 0 #[]), none⟩,
  ⟨some 4, (.assign (.tmp 17)), none⟩])
 (.seqL (.seq (.reg [⟨some 5, (.assign (.const (.int .i64 0))), none⟩])
 (.block 0 (.loop q20_7)))
 e20_9))))
theorem ce20 : c20 = e20 := rfl
end Go.PV.Ytefpjfpelicedaa
end
section
/- Calls and what stands behind code, kept asg claims on code: there a ghost may step in. -/
set_option linter.unusedVariables false
set_option linter.unusedSimpArgs false
namespace Go.PV
open Go
theorem vcalls_introA {P : Program} {f N : Nat} {rs : List ResultVar} {a : ACode} (hd : FnD P f N rs a) {xs : List VV} {H : AH} {K : VE → AH → Prop} (hN : xs.length ≤ N)
    (h : ACx ⟨P, N, none⟩ a (retPost P rs K) ⟨fun i => xs.getD i undefV, []⟩ H) : VCalls P f xs H K := by
  obtain ⟨fn, c, hf, hb, rfl, rfl, rfl⟩ := hd
  intro S w args hs hx
  refine callsIn_of_wp hf hb (show (P.funcs[f]?).isSome = true by rw [hf]; rfl) ?_ rfl
  have hw := h c rfl S w _ hs (frame0 hx hN)
  refine wpIn_mono hw ?_
  rintro e a' w' ⟨h0, S', H', A', h1, h2, h3, h4⟩
  have fin : A'.d = [] → (∃ x H'' x', resV P fn.results.toList A' H' = some x ∧ GhV H' x H'' x' ∧ K (.ret x') H'') → a'.defers = [] ∧ ∃ v, (results fn a'.tmps).run P w' = .ok v w' ∧ RQ K S H w (.returned v) w' := by
    rintro hd ⟨x, H'', x', g1, g2, g3⟩
    obtain ⟨u, q1, q2⟩ := resV_sound h2 h3 g1
    obtain ⟨S'', p1, p2, p3⟩ := g2 S' w' u h2 q2
    exact ⟨h3.2.1.trans hd, u, q1, S'', H'', x', h1.trans p1, p2, p3, g3⟩
  cases e with
  | normal => exact fin h4.1 h4.2
  | ret => exact fin h4.1 h4.2
  | panic ch =>
    obtain ⟨g1, H'', g2, g3⟩ := h4
    exact ⟨h3.2.1.trans g1, S', H'', h1.trans (h2.sub g2).2, (h2.sub g2).1, g3⟩
  | exit id => exact h4.elim
  | goto l => exact h4.elim
  | outgrown => exact absurd rfl h0
theorem compileD_seq {P : Program} {ops : Array Oper} {a b : ACode} : compileD P ops ≠ .seq a b := by
  unfold compileD
  dsimp only
  split
  · split
    · intro h; cases h
    · intro h; cases h
  · intro h; cases h
theorem acx_seqK {cx : Cx} {a b : ACode} {Q : APost} {K : AF → AH → Prop} {A : AF} {H : AH} (hQ : noGoto Q) (hK : ∀ A H, K A H → ACx cx b Q A H) (h : vc cx a (thenA K Q) A H) : ACx cx (.seq a b) Q A H := by
  intro c hc
  cases c with
  | seq x y =>
    simp only [compile] at hc
    split at hc
    · cases hc
    · injection hc with h1 h2
      subst h1
      refine ac_seq ((vc_sound x (thenA K Q) A H (fun l A H => hQ l A H) h).mono ?_)
      intro e A' H' hq
      cases e with
      | normal => exact hK A' H' hq y h2
      | _ => exact hq
  | region id ops draw =>
    simp only [compile] at hc
    split at hc
    · exact absurd hc compileD_seq
    · split at hc <;> cases hc
  | _ => simp only [compile] at hc; cases hc
/-- One after the other. -/
def seqs : List ACode → ACode → ACode
  | [], b => b
  | a :: l, b => .seq a (seqs l b)
def vcs (cx : Cx) (K : AF → AH → Prop) (Q : APost) : List ACode → AF → AH → Prop
  | [] => K
  | a :: l => vc cx a (thenA (vcs cx K Q l) Q)
theorem acx_seqs {cx : Cx} {b : ACode} {Q : APost} {K : AF → AH → Prop} (hQ : noGoto Q) (hK : ∀ A H, K A H → ACx cx b Q A H) : ∀ (l : List ACode) (A : AF) (H : AH), vcs cx K Q l A H → ACx cx (seqs l b) Q A H
  | [], A, H, h => hK A H h
  | a :: l, A, H, h => acx_seqK hQ (fun A H h => acx_seqs hQ hK l A H h) h
/-- What no step opens. -/
structure Hold (p : Prop) : Prop where
  out : p
end Go.PV
end
section
/- A ghost in a block's cells. -/
set_option linter.unusedVariables false
namespace Go.PV
open Go
theorem GhL.append {H H' H'' : AH} : ∀ {xs xs' ys ys' : List VV}, xs.length = xs'.length → GhL H xs H' xs' → GhL H' ys H'' ys' → GhL H (xs ++ ys) H'' (xs' ++ ys') := by
  intro xs xs' ys ys' hl h k S w us hs hx
  have split : ∀ (xs : List VV) {S : Nat → Prop} {ys : List VV} {us : List Value}, RvL S w (xs ++ ys) us → ∃ u1 u2, us = u1 ++ u2 ∧ RvL S w xs u1 ∧ RvL S w ys u2 := by
    intro xs
    induction xs with
    | nil => intro S ys us h; exact ⟨[], us, rfl, rfl, h⟩
    | cons x xs ih =>
      intro S ys us h
      obtain ⟨u, us', rfl, h1, h2⟩ := h
      obtain ⟨u1, u2, rfl, h3, h4⟩ := ih h2
      exact ⟨u :: u1, u2, rfl, ⟨u, u1, rfl, h1, h3⟩, h4⟩
  have join : ∀ (xs : List VV) {S : Nat → Prop} {ys : List VV} {u1 u2 : List Value}, RvL S w xs u1 → RvL S w ys u2 → RvL S w (xs ++ ys) (u1 ++ u2) := by
    intro xs
    induction xs with
    | nil => intro S ys u1 u2 h k; obtain rfl : u1 = [] := h; exact k
    | cons x xs ih =>
      intro S ys u1 u2 h k
      obtain ⟨u, us', rfl, h1, h2⟩ := h
      exact ⟨u, us' ++ u2, rfl, h1, ih h2 k⟩
  obtain ⟨u1, u2, rfl, h1, h2⟩ := split xs hx
  obtain ⟨S1, a1, a2, a3⟩ := h S w u1 hs h1
  obtain ⟨S2, b1, b2, b3⟩ := k S1 w u2 a2 (h2.step hs a1)
  exact ⟨S2, a1.trans b1, b2, join xs' (a3.step a2 b1) b3⟩
/-- A block's cells may be taken for others that stand for the same. -/
theorem Ghost.cell {N : Nat} {A : AF} {H H' : AH} {r : Nat} {e : TypeId} {cs cs' : List VV} {sp : Nat} (hr : H r = some (.cells e cs sp)) (h : GhL (H.del r) cs H' cs') : Ghost N A H A (H'.set r (.cells e cs' sp)) := fun S w a hs hf => by
  have hsub : SubH (H.del r) H := fun i b hb => by
    by_cases e : i = r
    · subst e; rw [AH.del_same] at hb; cases hb
    · rw [AH.del_ne _ e] at hb; exact hb
  obtain ⟨s1, s2⟩ := hs.sub hsub
  obtain ⟨vs, v1, v2, v3⟩ := hs.blk r _ hr
  obtain ⟨S', a1, a2, a3⟩ := h S w _ s1 v3
  have hlt : r < w.heap.size := by
    refine Nat.lt_of_not_ge fun hn => ?_
    rw [Array.getElem?_eq_none hn] at v1; cases v1
  have hnS : ¬ S' r := fun hS => by
    rcases a1.snew r hS with h1 | h1 | h1
    · exact hs.dis r _ hr h1
    · exact h1 (AH.del_same _ _)
    · omega
  have l1 : (vs.toList.take cs.length).length = cs.length := by
    have e : vs.toList.length = vs.size := Array.length_toList
    rw [List.length_take]; omega
  have hlen : cs'.length = cs.length := by rw [← a3.length]; exact l1
  refine ⟨S', ?_, ⟨fun i b hb => ?_, fun i b hb => ?_, a2.lt⟩, ?_⟩
  · have k := s2.trans a1
    refine ⟨k.os, k.tape, k.output, k.size, k.sub, fun _ _ _ => rfl, fun i hi => ?_, fun i hi => ?_⟩
    · by_cases e : i = r
      · subst e; exact .inl (by rw [hr]; simp)
      · rw [AH.get, if_neg e] at hi
        exact k.own i hi
    · exact k.snew i hi
  · by_cases e : i = r
    · subst e
      rw [AH.set_same] at hb
      cases hb
      exact ⟨vs, v1, by rw [hlen]; exact v2, by rw [hlen]; exact a3⟩
    · rw [AH.get, if_neg e] at hb
      exact a2.blk i b hb
  · by_cases e : i = r
    · subst e; exact hnS
    · rw [AH.get, if_neg e] at hb
      exact a2.dis i b hb
  · exact ⟨hf.1, hf.2.1, fun j => ((hf.2.2 j).step hs s2).step s1 a1⟩
theorem acx_loopA {cx : Cx} {Q : APost} {A : AF} {H : AH} {a : ACode} (I : AF → AH → Prop) (μ : AF → AH → Nat) (h0 : I A H)
    (round : ∀ A H, I A H → ACx cx a (thenA (fun A' H' => I A' H' ∧ μ A' H' < μ A H) Q) A H) : ACx cx (.loop a) Q A H := by
  intro c hc
  cases c with
  | loop c =>
    simp only [compile, ACode.loop.injEq] at hc
    exact ac_loop I μ h0 fun A H hI => round A H hI c hc
  | region id ops draw =>
    exfalso
    unfold compile compileD at hc
    split at hc
    · dsimp only at hc
      split at hc
      · split at hc <;> cases hc
      · cases hc
    · split at hc <;> cases hc
  | seq x y => simp only [compile] at hc; split at hc <;> cases hc
  | _ => simp [compile] at hc
/-- A loop; what holds at a round's head holds after a ghost. -/
theorem acx_loopG {cx : Cx} {Q : APost} {A : AF} {H : AH} {a : ACode} (hQ : noGoto Q) (I : AF → AH → Prop) (μ : AF → AH → Nat) (h0 : I A H)
    (round : ∀ A H, I A H → ∃ A1 H1, Ghost cx.N A H A1 H1 ∧ vc cx a (thenA (fun A' H' => I A' H' ∧ μ A' H' < μ A H) Q) A1 H1) : ACx cx (.loop a) Q A H :=
  acx_loopA I μ h0 fun A H hI => by
    obtain ⟨A1, H1, g, h⟩ := round A H hI
    exact acx_ghost g (vc_acx (fun l A H h => hQ l A H h) h)
end Go.PV
end
section
/- The reference's Rational: rows behind rows; its first rows. -/
set_option linter.unusedVariables false
set_option linter.unusedSimpArgs false
set_option maxRecDepth 20000
set_option maxHeartbeats 4000000
namespace Go.PV.Ytefpjfpelicedaa
open Go Go.Proofs
def Bt (H1 H : AH) (r6 : Nat) (cs : List Int) (b : Int) : Prop := ∃ v, OwnX (H1.set r6 (.cells 39 [v, iV b] 0)) H 3 1 v cs.length (encC intE cs)
theorem Bt.next {H1 H : AH} {r6 : Nat} {cs : List Int} {b a : Int} {v v' : VV} (ho : OwnX (H1.set r6 (.cells 39 [v, iV b] 0)) H 3 1 v' (cs.length + 1) (encC intE cs ++ [iV a])) : Bt H1 (H.set r6 (.cells 39 [v', iV b] 0)) r6 (cs ++ [a]) b := by
  refine ⟨v', ?_⟩
  have := ho.put (AH.set_same _ _ _) (.cells 39 [v', iV b] 0)
  rw [AH.set_set] at this
  rw [List.length_append, encC_append]
  exact this
theorem OutR.append2 {H H' : AH} {mv x : VV} {made : List Row} {r : Row} {K : VE → AH → Prop} (h : OutR H H' mv made) (hl : made.length ≤ 100000000) (hx : x = .slice true 1 (rowE r)) (hK : ∀ v' H'', OutR H H'' v' (made ++ [r]) → K (.ret v') H'') : AppendA Try.prog 22 mv x H' K := by
  subst hx
  rcases h with ⟨rfl, rfl, h⟩ | ⟨Hb, h1, h2, h3⟩
  · refine append_clip elT_22 zeroT_39 rfl (by omega) rfl rfl rfl (by omega) (by omega) (fun h => by omega) (fun _ v' H'' ho => hK _ _ (.inr ⟨H', h, ?_, by simp⟩))
    simpa [encC_cons, encC] using ho
  · refine append_own elT_22 zeroT_39 rfl (by omega) h2 rfl rfl (by omega) (by omega) (fun v' H'' ho => hK _ _ (.inr ⟨Hb, h1, ?_, by simp⟩))
    rw [show encC rowE (made ++ [r]) = encC rowE made ++ rowE r from by rw [encC_append]; rfl, List.length_append]
    exact ho
/-- A row whose numbers stand in a block of their own, appended: what is there may be taken for rows that nothing changes. -/
theorem OutR.appendG {H Hq Hr : AH} {lv v : VV} {l : List Row} {cs : List Int} {b : Int} {K : VE → AH → Prop} (h : OutR H Hq lv l) (ho : OwnX Hq Hr 3 1 v cs.length (encC intE cs)) (hl : l.length ≤ 100000000)
    (hK : ∀ v' H'', (∃ H1, (∀ N A, Ghost N A H'' A H1) ∧ OutR H H1 v' (l ++ [⟨cs, b⟩])) → v'.cells = [v'] → VV.one v' = true → K (.ret v') H'') : AppendA Try.prog 22 lv (.slice true 1 [v, iV b]) Hr K := by
  have hone : (List.take (1 * 2) [v, iV b]).all VV.one = true := by
    show (VV.one v && (VV.one (iV b) && true)) = true
    rw [ho.cells.2]; rfl
  rcases h with ⟨rfl, rfl, h⟩ | ⟨Hb, h1, h2, h3⟩
  · refine append_clip elT_22 zeroT_39 rfl (by omega) rfl rfl hone (by omega) (by omega) (fun h => by omega) (fun _ v' H'' ho2 => hK _ _ ?_ ho2.cells.1 ho2.cells.2)
    rcases ho2 with ⟨_, e, _⟩ | ⟨gl, c, sp, rfl, hg0, rfl, q1, q2, q3, q4⟩
    · omega
    · refine ⟨Hq.set gl (.cells 39 [intsV cs, iV b] sp), fun N A => ?_, .inr ⟨Hq, h, .inr ⟨gl, c, sp, rfl, ho.sub.none hg0, rfl, rfl, q2, q3, q4⟩, by simp⟩⟩
      refine Ghost.cell (cs := [v, iV b]) (AH.set_same _ _ _) ?_
      rw [AH.del_set _ _ _ hg0]
      exact GhL.cons (GhV.own ho) (GhL.cons (GhV.refl _ _) (GhL.nil _))
  · obtain ⟨Hx, o1, o2⟩ := h2.swap ho
    refine append_own elT_22 zeroT_39 rfl (by omega) o2 rfl hone (by omega) (by omega) (fun v' H'' ho2 => hK _ _ ?_ ho2.cells.1 ho2.cells.2)
    rcases ho2 with ⟨_, e, _⟩ | ⟨gl, c, sp, rfl, hg0, rfl, q1, q2, q3, q4⟩
    · omega
    · have e : encC rowE (l ++ [⟨cs, b⟩]) = encC rowE l ++ [intsV cs, iV b] := by rw [encC_append]; rfl
      have e2 : (encC rowE l ++ [intsV cs, iV b]).length = (encC rowE l ++ List.take (1 * 2) [v, iV b]).length := by rw [List.length_append, List.length_append]; rfl
      refine ⟨Hb.set gl (.cells 39 (encC rowE (l ++ [⟨cs, b⟩])) sp), fun N A => ?_, .inr ⟨Hb, h1, .inr ⟨gl, c, sp, by rw [List.length_append]; rfl, o1.sub.none hg0, rfl, ?_, ?_, ?_, q4⟩, by simp⟩⟩
      · rw [e]
        refine Ghost.cell (cs := encC rowE l ++ [v, iV b]) (AH.set_same _ _ _) ?_
        rw [AH.del_set _ _ _ hg0]
        exact GhL.append rfl (GhL.refl _ _) (GhL.cons (GhV.own o1) (GhL.cons (GhV.refl _ _) (GhL.nil _)))
      · rw [e, e2, q1, List.length_append]; rfl
      · rw [e, e2]; exact q2
      · rw [List.length_append]; exact q3
theorem loop20b {H1 H : AH} {t : Nat → VV} {rows : List Row} {n i r6 : Nat} {lv : VV} {b : Int} {K : AF → AH → Prop} {Q : APost} (hQ : noGoto Q) (hPQ : panQ Q) (h0 : t 0 = rowsV rows) (h3 : t 3 = iV n) (h4 : t 4 = lv) (h5 : t 5 = iV i) (h6 : t 6 = ptrV r6 0) (h7 : t 7 = iV 0) (hi : i < rows.length) (hn : n ≤ 1000)
    (hb : Bt H1 H r6 [] b) (n6 : H1 r6 = none)
    (hK : ∀ (t : Nat → VV) (H : AH) (v : VV), t 0 = rowsV rows → t 3 = iV n → t 4 = lv → t 5 = iV i → t 6 = ptrV r6 0 → OwnX (H1.set r6 (.cells 39 [v, iV b] 0)) H 3 1 v (wideL rows[i].c n).length (encC intE (wideL rows[i].c n)) → K ⟨t, []⟩ H) :
    ACx ⟨Try.prog, 146, none⟩ (.loop q20_6) (inBlockA 2 (thenA K Q)) ⟨t, []⟩ H := by
  have hlen : (wideL rows[i].c n).length = n := wide_len _ _
  refine acx_loop (fun l A H h => hQ l A H h) (fun A H' => A.d = [] ∧ A.t 0 = rowsV rows ∧ A.t 3 = iV n ∧ A.t 4 = lv ∧ A.t 5 = iV i ∧ A.t 6 = ptrV r6 0 ∧ ∃ k : Nat, k ≤ n ∧ A.t 7 = iV k ∧ Bt H1 H' r6 ((wideL rows[i].c n).take k) b)
    (fun A _ => match A.t 7 with | .lit (.int _ i) => ((n : Int) - i).toNat | _ => 0) ?_ ?_
  · exact ⟨rfl, h0, h3, h4, h5, h6, 0, by omega, h7, hb⟩
  · clear h0 h3 h4 h5 h6 h7 hb
    rintro ⟨t, d⟩ H' ⟨rfl, h0, h3, h4, h5, h6, k, hk, h7, v, ho⟩
    dsimp only at h0 h3 h4 h5 h6 h7
    have q6 := ho.sub _ _ (AH.set_same _ _ _)
    have hll : ((wideL rows[i].c n).take k).length = k := by rw [List.length_take]; omega
    unfold q20_6
    (repeat' (first | (refine acx_dreg mixed (fun c A A' H e h => hPQ c A A' H e h) _ (SubH.refl _) ?_) | (simp only [↓s_reg, ↓s_seq, ↓s_cond, ↓s_exit, ↓s_nil, ↓s_consN, ↓s_thenN, ↓s_thenE, ↓s_inE, ↓s_kret, ↓s_putS, ↓s_dOkS, ↓s_ev_t, ↓s_ev_f, ↓s_upd, ↓s_move, ↓s_load, ↓s_bin, ↓s_buildSlice, ↓s_fieldAddr, ↓s_indexAddr, ↓s_callB, ↓s_callV, ↓s_callL, ↓s_append, ↓s_bin_lss, ptrV, List.map_cons, List.map_nil, List.length_cons, List.length_nil, List.append_nil, ite_true, ite_false, Nat.reduceEqDiff, Nat.reduceLT, Nat.reduceLeDiff, ne_eq, not_false_eq_true, true_and, Nat.succ_ne_self, decide_true, decide_false, reduceCtorEq, Int.natCast_nonneg, Int.toNat_natCast, Nat.mul_one, ↓s_plFin, ↓s_plTkN, ↓s_plOneN, fillV, setAt, eq_self, Nat.zero_add, Nat.add_zero, List.drop, and_self, ldV_f, ldV_t2, Int.ofNat_lt, cl_int, List.set_cons_zero, Nat.le_refl, n_ldI, n_ldP, n_faP, n_ixS, n_ixA1, n_ldA, n_ldC, n_ldB, n_faA, ↓s_plK, ↓s_oneK, vcBuildSlice, List.replicate_succ, List.replicate_zero, List.flatten_cons, List.flatten_nil, rows_drop, flT_39_0, ldT_39, ldT_37, elT_22, elT_37, zeroT_3, en_45, *]) | (refine condL_splitD ?_ ?_ <;> intro) | (exact SubH.refl _) | (refine PureF.use (coeff45 _ _ (Int.natCast_nonneg _)) ?_) | (with_reducible refine And.intro ?_ ?_)))
    · have hlt : k < n := by assumption
      refine append_own elT_37 zeroT_3 rfl (by omega) ho rfl rfl (by omega) (by omega) (fun v' H'' ho2 => ?_)
      have q6' := ho2.sub _ _ (AH.set_same _ _ _)
      have hc1 := ho2.cells.1
      have hc2 := ho2.cells.2
      clear q6
      (repeat' (first | (simp only [↓s_reg, ↓s_nil, ↓s_consN, ↓s_thenN, ↓s_inN, ↓s_kret, ↓s_putS, ↓s_putN, ↓s_dOkS, ↓s_dOkN, ↓s_ev_t, ↓s_ev_c, ↓s_upd, ↓s_move, ↓s_assign, ↓s_store, ↓s_bin, ↓s_fieldAddr, ↓s_bin_add, ptrV, List.length_cons, List.length_nil, ite_true, ite_false, Nat.reduceEqDiff, Nat.reduceLT, Nat.reduceAdd, Nat.reduceLeDiff, ne_eq, not_false_eq_true, true_and, Nat.succ_ne_self, reduceCtorEq, setAt, List.all_cons, List.all_nil, Bool.and_self, eq_self, Nat.zero_add, Nat.add_zero, List.set_cons_zero, n_faP, n_faA, n_stP, n_stA, flT_39_0, szT_37, *]) | (with_reducible refine And.intro ?_ ?_)))
      all_goals rw [wrap_ok (n := (k : Int) + 1) (by omega) (by omega)]
      · refine ⟨k + 1, by omega, rfl, ?_⟩
        rw [take_snoc (by omega), wide_get hlt]
        exact Bt.next ho2
      · omega
    · have hkn : k = n := by omega
      subst hkn
      rw [List.take_of_length_le (by omega)] at ho
      exact hK _ _ v (by simp only [s_upd, Nat.reduceEqDiff, if_false, *] <;> rfl) (by simp only [s_upd, Nat.reduceEqDiff, if_false, *] <;> rfl) (by simp only [s_upd, Nat.reduceEqDiff, if_false, *] <;> rfl) (by simp only [s_upd, Nat.reduceEqDiff, if_false, *] <;> rfl) (by simp only [s_upd, Nat.reduceEqDiff, if_false, *] <;> rfl) ho
end Go.PV.Ytefpjfpelicedaa
end
section
/- The reference's Rational: its first rows. -/
set_option linter.unusedVariables false
set_option linter.unusedSimpArgs false
set_option maxRecDepth 20000
set_option maxHeartbeats 4000000
namespace Go.PV.Ytefpjfpelicedaa
open Go Go.Proofs
/-- What a ghost makes of a state. -/
def ToR (N : Nat) (H0 : AH) (A : AF) (H : AH) (l : List Row) : Prop := ∃ H1, (∀ N A, Ghost N A H A H1) ∧ OutR H0 H1 (A.t 4) l
theorem OutR.out {N : Nat} {H0 H : AH} {A : AF} {l : List Row} (h : OutR H0 H (A.t 4) l) : ToR N H0 A H l := ⟨H, fun N A => Ghost.forget (SubH.refl _), h⟩
theorem loop20a {H0 H : AH} {t : Nat → VV} {rows : List Row} {n : Nat} {K : AF → AH → Prop} {Q : APost} (hQ : noGoto Q) (hPQ : panQ Q) (h0 : t 0 = rowsV rows) (h3 : t 3 = iV n) (h5 : t 5 = iV 0) (hn : n ≤ 1000) (hrl : rows.length ≤ 1000)
    (ho : OutR H0 H (t 4) [])
    (hK : ∀ (t : Nat → VV) (H : AH), t 3 = iV n → ToR 146 H0 ⟨t, []⟩ H (rows.map fun r => wideR r n) → K ⟨t, []⟩ H) :
    ACx ⟨Try.prog, 146, none⟩ (.loop q20_7) (inBlockA 0 (thenA K Q)) ⟨t, []⟩ H := by
  refine acx_loopG (fun l A H h => hQ l A H h) (fun A H' => A.d = [] ∧ A.t 0 = rowsV rows ∧ A.t 3 = iV n ∧ ∃ i : Nat, i ≤ rows.length ∧ A.t 5 = iV i ∧ ToR 146 H0 A H' ((rows.take i).map fun r => wideR r n))
    (fun A _ => match A.t 5 with | .lit (.int _ i) => ((rows.length : Int) - i).toNat | _ => 0) ?_ ?_
  · exact ⟨rfl, h0, h3, 0, by omega, h5, OutR.out (N := 146) ho⟩
  · clear h0 h3 h5 ho
    rintro ⟨t, d⟩ H' ⟨rfl, h0, h3, i, hi, h5, H1, gh, ho⟩
    dsimp only at h0 h3 h5 ho
    refine ⟨_, _, gh _ _, ?_⟩
    obtain ⟨lv, h4⟩ : ∃ lv, lv = t 4 := ⟨_, rfl⟩
    rw [← h4] at ho
    replace h4 := h4.symm
    have hc1 := ho.cells.1
    have hc2 := ho.cells.2
    have hml : ((rows.take i).map fun r => wideR r n).length = i := by simp; omega
    unfold q20_7
    (repeat' (first | (simp only [↓s_skip, ↓s_reg, ↓s_seq, ↓s_seqL, ↓s_cond, ↓s_block, ↓s_exit, ↓s_loop, ↓s_nil, ↓s_consN, ↓s_thenN, ↓s_thenE, ↓s_inE, ↓s_kret, ↓s_putS, ↓s_putN, ↓s_dOkS, ↓s_dOkN, ↓s_ev_t, ↓s_ev_c, ↓s_upd, ↓s_move, ↓s_assign, ↓s_load, ↓s_store, ↓s_bin, ↓s_alloc, ↓s_build, ↓s_fieldAddr, ↓s_indexAddr, ↓s_callB, ↓s_len, ↓s_bin_lss, ptrV, intV, List.map_cons, List.map_nil, List.length_cons, List.length_nil, ite_true, ite_false, Nat.reduceEqDiff, Nat.reduceLT, Nat.reduceAdd, ne_eq, not_false_eq_true, true_and, Nat.succ_ne_self, decide_true, decide_false, reduceCtorEq, Int.natCast_nonneg, Int.toNat_natCast, AH.get, AH.set_set, vcBuild, fillV, setAt, List.all_cons, List.all_nil, Bool.and_self, eq_self, Nat.zero_add, List.drop, and_self, List.getElem?_cons_zero, List.getElem?_cons_succ, ldV_f, Int.ofNat_lt, cl_int, on_int, on_sl, cl_agg, List.set_cons_zero, List.set_cons_succ, ↓n_alloc, n_allocS, Nat.le_refl, n_ldI, n_faI, n_ixS, n_ixA1, n_lenS, n_ldC, n_ldB, n_faA, n_stP, n_stA, rows_drop, flT_39_1, ldT_3, szT_39, stT_39, zeroT_39, elT_22, *]) | (refine condL_splitD ?_ ?_ <;> intro) | (refine allNew_intro fun zr zh => ?_; have zg := zh; (try simp only [AH.set_none] at zg))))
    · have hlt : i < rows.length := by assumption
      refine loop20b (H1 := H1) (rows := rows) (n := n) (i := i) (r6 := zr) (lv := lv) (b := rows[i].b) hQ hPQ (by simp only [s_upd, Nat.reduceEqDiff, if_false, *] <;> rfl) (by simp only [s_upd, Nat.reduceEqDiff, if_false, *] <;> rfl) (by simp only [s_upd, Nat.reduceEqDiff, if_false, *] <;> rfl) (by simp only [s_upd, Nat.reduceEqDiff, if_false, *] <;> rfl) (by simp only [s_upd, Nat.reduceEqDiff, if_true, if_false, *] <;> rfl) (by simp only [s_upd, Nat.reduceEqDiff, if_true, if_false, *] <;> rfl) hlt hn ⟨.lit (.slice none 0 0), OwnX.nil _ 3 1⟩ (by assumption) (fun t2 H2 v g0 g3 g4 g5 g6 hv => ?_)
      have q6 := hv.sub _ _ (AH.set_same _ _ _)
      have hv1 := hv.cells.1
      have hv2 := hv.cells.2
      unfold c20_1
      (repeat' (first | (refine acx_go rfl (fun l A H h => hQ l A H h) ?_) | (simp only [↓s_reg, ↓s_consN, ↓s_kret, ↓s_putS, ↓s_dOkS, ↓s_ev_t, ↓s_upd, ↓s_move, ↓s_load, ↓s_buildSlice, ↓s_callB, ↓s_append, ptrV, List.map_cons, List.map_nil, List.length_cons, List.length_nil, List.append_nil, ite_true, ite_false, Nat.reduceEqDiff, Nat.reduceLT, Nat.reduceAdd, Nat.reduceMul, Nat.reduceLeDiff, true_and, Nat.succ_ne_self, fillV, setAt, eq_self, Nat.zero_add, List.drop, and_self, ldV_t2, cl_agg, List.set_cons_zero, List.set_cons_succ, Nat.le_refl, n_ldP, n_ldA, n_ldB, vcBuildSlice, List.replicate_succ, List.replicate_zero, List.flatten_cons, List.flatten_nil, c20_2, ldT_39, zeroT_39, elT_22, *])))
      refine OutR.appendG (ho.alloc (by assumption) _) hv (by omega) (fun v' H'' hg hw1 hw2 => ?_)
      clear hv1 hv2 hc1 hc2
      (repeat' (first | (refine acx_go rfl (fun l A H h => hQ l A H h) ?_) | (simp only [↓s_reg, ↓s_nil, ↓s_consN, ↓s_thenN, ↓s_inN, ↓s_kret, ↓s_putS, ↓s_dOkS, ↓s_ev_t, ↓s_ev_c, ↓s_upd, ↓s_move, ↓s_assign, ↓s_bin, ↓s_bin_add, ite_true, ite_false, Nat.reduceEqDiff, Nat.reduceLT, true_and, Nat.succ_ne_self, reduceCtorEq, eq_self, *]) | (with_reducible refine And.intro ?_ ?_)))
      all_goals rw [wrap_ok (n := (i : Int) + 1) (by omega) (by omega)]
      · obtain ⟨H3, gg, oo⟩ := hg
        refine ⟨i + 1, by omega, rfl, H3, gg, ?_⟩
        rw [take_snoc hlt, List.map_append]
        exact oo
      · omega
    · have hin : i = rows.length := by omega
      subst hin
      rw [List.take_length] at ho
      refine hK _ _ (by simp only [s_upd, Nat.reduceEqDiff, if_false, *] <;> rfl) (OutR.out (N := 146) ?_)
      simp only [s_upd, Nat.reduceEqDiff, if_false, h4]
      exact ho
theorem loop20c {H0 H : AH} {t : Nat → VV} {l0 : List Row} {n : Nat} {K : AF → AH → Prop} {Q : APost} (hQ : noGoto Q) (hPQ : panQ Q) (h3 : t 3 = iV n) (h8 : t 8 = iV 0) (hn : n ≤ 1000) (hrl : l0.length ≤ 1000)
    (ho : OutR H0 H (t 4) l0)
    (hK : ∀ (t : Nat → VV) (H : AH), t 3 = iV n → ToR 146 H0 ⟨t, []⟩ H (l0 ++ (List.range n).map (unitR n)) → K ⟨t, []⟩ H) :
    ACx ⟨Try.prog, 146, none⟩ (.loop q20_5) (inBlockA 4 (thenA K Q)) ⟨t, []⟩ H := by
  have h0n : (0 : Int) ≤ n := by omega
  have h8n : ((8 : Nat) : Int) * n ≤ 281474976710656 := by omega
  have h9n : (n : Int) ≤ 9223372036854775807 := by omega
  refine acx_loopG (fun l A H h => hQ l A H h) (fun A H' => A.d = [] ∧ A.t 3 = iV n ∧ ∃ i : Nat, i ≤ n ∧ A.t 8 = iV i ∧ ToR 146 H0 A H' (l0 ++ (List.range i).map (unitR n)))
    (fun A _ => match A.t 8 with | .lit (.int _ i) => ((n : Int) - i).toNat | _ => 0) ?_ ?_
  · exact ⟨rfl, h3, 0, by omega, h8, OutR.out (N := 146) (by simpa using ho)⟩
  · clear h3 h8 ho
    rintro ⟨t, d⟩ H' ⟨rfl, h3, i, hi, h8, H1, gh, ho⟩
    dsimp only at h3 h8 ho
    refine ⟨_, _, gh _ _, ?_⟩
    obtain ⟨lv, h4⟩ : ∃ lv, lv = t 4 := ⟨_, rfl⟩
    rw [← h4] at ho
    replace h4 := h4.symm
    have hc1 := ho.cells.1
    have hc2 := ho.cells.2
    have hml : (l0 ++ (List.range i).map (unitR n)).length ≤ 2000 := by simp; omega
    unfold q20_5
    (repeat' (first | (simp only [↓s_skip, ↓s_reg, ↓s_seq, ↓s_cond, ↓s_block, ↓s_exit, ↓s_nil, ↓s_consN, ↓s_thenN, ↓s_thenE, ↓s_inE, ↓s_kret, ↓s_putS, ↓s_putN, ↓s_dOkS, ↓s_dOkN, ↓s_ev_t, ↓s_ev_c, ↓s_upd, ↓s_move, ↓s_load, ↓s_store, ↓s_bin, ↓s_alloc, ↓s_build, ↓s_buildSlice, ↓s_makeSlice, ↓s_fieldAddr, ↓s_indexAddr, ↓s_callB, ↓s_append, ↓s_bin_lss, ptrV, List.map_cons, List.map_nil, List.length_cons, List.length_nil, List.append_nil, ite_true, ite_false, Nat.reduceEqDiff, Nat.reduceLT, Nat.reduceAdd, Nat.reduceMul, Nat.reduceLeDiff, ne_eq, not_false_eq_true, true_and, Nat.succ_ne_self, decide_true, decide_false, Int.natCast_nonneg, Int.toNat_natCast, Nat.mul_one, AH.get, AH.set_set, vcBuild, fillV, setAt, List.all_cons, List.all_nil, Bool.and_self, eq_self, Nat.zero_add, Nat.add_zero, List.drop, and_self, List.getElem?_cons_zero, ldV_f, ldV_t2, Int.ofNat_lt, Int.ofNat_le, cl_int, on_int, cl_sl, on_sl, cl_agg, List.set_cons_zero, List.set_cons_succ, ↓n_alloc, n_allocS, ↓n_make, n_makeS, n_makeT, Nat.le_refl, n_ldP, n_faP, n_ixL, n_ixA2, n_ldA, n_ldB, n_faA, n_stP, n_stA, Int.reduceNeg, vcBuildSlice, List.replicate_succ, List.replicate_zero, List.flatten_cons, List.flatten_nil, zeros_int, zeroT_3, ints_len, List.length_replicate, flT_39_0, ldT_39, ldT_37, szT_39, stT_39, szT_3, zeroT_39, elT_22, elT_37, *]) | (refine condL_splitD ?_ ?_ <;> intro) | (refine allNew_intro fun zr zh => ?_; have zg := zh; (try simp only [AH.set_none] at zg)) | assumption | (with_reducible refine And.intro ?_ ?_)))
    · have hlt : i < n := by assumption
      rename_i g z1 z1'
      have hv : OwnX (H1.set zr (.cells 39 [.lit (.slice (some ⟨g, 0, none⟩) n n), iV 0] 0)) (((H1.set g (.cells 3 (encC intE (List.replicate n 0)) 0)).set zr (.cells 39 [.lit (.slice (some ⟨g, 0, none⟩) n n), iV 0] 0)).set g (.cells 3 ((encC intE (List.replicate n 0)).set i (iV (-1))) 0)) 3 1 (.lit (.slice (some ⟨g, 0, none⟩) n n)) (unitR n i).c.length (encC intE (unitR n i).c) := by
        have el : (unitR n i).c.length = n := by simp [unitR]
        rw [el]
        refine .inr ⟨g, n, 0, rfl, ?_, ?_, ?_, ?_, Nat.le_refl _, by unfold maxLen; omega⟩
        · rw [AH.get, if_neg zg.1.2]; exact z1
        · rw [ints_set, AH.comm _ _ zg.1.2, AH.set_set]; first | exact AH.comm _ _ zg.1.1 | exact AH.comm _ _ zg.1.2
        · rw [ints_len, el]; omega
        · rw [ints_len, el]; omega
      have hv1 := hv.cells.1
      have hv2 := hv.cells.2
      refine OutR.appendG (ho.alloc zg.2 _) hv (by omega) (fun v' H'' hg hw1 hw2 => ?_)
      clear hv1 hv2 hc1 hc2 hv
      (repeat' (first | (simp only [↓s_reg, ↓s_nil, ↓s_consN, ↓s_thenN, ↓s_inN, ↓s_kret, ↓s_putS, ↓s_dOkS, ↓s_ev_t, ↓s_ev_c, ↓s_upd, ↓s_move, ↓s_assign, ↓s_bin, ↓s_bin_add, ite_true, ite_false, Nat.reduceEqDiff, Nat.reduceLT, true_and, Nat.succ_ne_self, eq_self, *]) | (with_reducible refine And.intro ?_ ?_)))
      all_goals rw [wrap_ok (n := (i : Int) + 1) (by omega) (by omega)]
      · obtain ⟨H3, gg, oo⟩ := hg
        refine ⟨i + 1, by omega, rfl, H3, gg, ?_⟩
        rw [List.range_succ, List.map_append, ← List.append_assoc]
        exact oo
      · omega
    · have hin : i = n := by omega
      subst hin
      refine hK _ _ (by simp only [s_upd, Nat.reduceEqDiff, if_false, *] <;> rfl) (OutR.out (N := 146) ?_)
      simp only [s_upd, Nat.reduceEqDiff, if_false, h4]
      exact ho
end Go.PV.Ytefpjfpelicedaa
end
section
/- The reference's Rational: the rows without an unknown. -/
set_option linter.unusedVariables false
set_option linter.unusedSimpArgs false
set_option maxRecDepth 20000
set_option maxHeartbeats 4000000
namespace Go.PV.Ytefpjfpelicedaa
open Go Go.Proofs
def pick6 (k : Nat) (a : Row) (l : List Row) : List Row := (l.filter fun b => decide (0 < a.c.getD k 0) && decide (b.c.getD k 0 < 0)).map fun b => combF a b k
theorem pick6_snoc {k : Nat} {a : Row} {l : List Row} {j : Nat} (h : j < l.length) : pick6 k a (l.take (j + 1)) = pick6 k a (l.take j) ++ (if 0 < a.c.getD k 0 ∧ l[j].c.getD k 0 < 0 then [combF a l[j] k] else []) := by
  unfold pick6
  rw [take_snoc h, List.filter_append, List.map_append]
  congr 1
  by_cases hc : 0 < a.c.getD k 0 ∧ l[j].c.getD k 0 < 0
  · rw [if_pos hc, List.filter_cons, decide_eq_true hc.1, decide_eq_true hc.2]; rfl
  · rw [if_neg hc, List.filter_cons]
    have : (decide (0 < a.c.getD k 0) && decide (l[j].c.getD k 0 < 0)) = false := by
      rw [← Bool.decide_and]; exact decide_eq_false hc
    rw [this]; rfl
theorem pick6_len {k : Nat} {a : Row} {l : List Row} : (pick6 k a l).length ≤ l.length := by
  unfold pick6
  rw [List.length_map]; exact List.length_filter_le _ _
theorem loop20f {H0 H : AH} {t : Nat → VV} {l acc : List Row} {n k i : Nat} {Q : APost} (hQ : noGoto Q) (hPQ : panQ Q) (h3 : t 3 = iV n) (h4 : t 4 = rowsV l) (h10 : t 10 = iV k) (h12 : t 12 = iV i) (h13 : t 13 = iV 0) (hi : i < l.length) (hk : k < n) (hn : n ≤ 1000)
    (hlen : ∀ r ∈ l, r.c.length = n) (hin : ∀ a ∈ l, ∀ b ∈ l, 0 < a.c.getD k 0 → b.c.getD k 0 < 0 → In64 (combU a b k).b ∧ ∀ c ∈ (combU a b k).c, In64 c)
    (hsz : acc.length + l.length ≤ 100000000) (ho : OutR H0 H (t 11) acc)
    (hK : ∀ (t : Nat → VV) (H : AH), t 3 = iV n → t 4 = rowsV l → t 10 = iV k → t 12 = iV i → OutR H0 H (t 11) (acc ++ pick6 k l[i] l) → Q .normal ⟨t, []⟩ H) :
    ACx ⟨Try.prog, 146, none⟩ (.loop q20_2) (inBlockA 10 Q) ⟨t, []⟩ H := by
  refine acx_loop (fun l A H h => hQ l A H h) (fun A H' => A.d = [] ∧ A.t 3 = iV n ∧ A.t 4 = rowsV l ∧ A.t 10 = iV k ∧ A.t 12 = iV i ∧ ∃ j : Nat, j ≤ l.length ∧ A.t 13 = iV j ∧ OutR H0 H' (A.t 11) (acc ++ pick6 k l[i] (l.take j)))
    (fun A _ => match A.t 13 with | .lit (.int _ j) => ((l.length : Int) - j).toNat | _ => 0) ?_ ?_
  · exact ⟨rfl, h3, h4, h10, h12, 0, by omega, h13, by simpa [pick6] using ho⟩
  · clear h3 h4 h10 h12 h13 ho
    rintro ⟨t, d⟩ H' ⟨rfl, h3, h4, h10, h12, j, hj, h13, ho⟩
    dsimp only at h3 h4 h10 h12 h13 ho
    obtain ⟨lv, h11⟩ : ∃ lv, lv = t 11 := ⟨_, rfl⟩
    rw [← h11] at ho
    replace h11 := h11.symm
    have hc1 := ho.cells.1
    have hc2 := ho.cells.2
    have hki : k < l[i].c.length := by rw [hlen _ (List.getElem_mem _)]; exact hk
    have hgi := getD_at hki
    have hml : (acc ++ pick6 k l[i] (l.take j)).length ≤ 100000000 := by
      have := @pick6_len k l[i] (l.take j)
      rw [List.length_take] at this
      rw [List.length_append]; omega
    have hll : (l.length : Int) ≤ 100000000 := by omega
    unfold q20_2
    by_cases hlt : j < l.length
    · have hkj : k < l[j].c.length := by rw [hlen _ (List.getElem_mem _)]; exact hk
      have hgj := getD_at hkj
      have hsn := pick6_snoc (k := k) (a := l[i]) hlt
      by_cases hc : 0 < l[i].c[k] ∧ l[j].c[k] < 0
      · have hc' : 0 < l[i].c.getD k 0 ∧ l[j].c.getD k 0 < 0 := by rw [hgi, hgj]; exact hc
        obtain ⟨i1, i2⟩ := hin _ (List.getElem_mem hi) _ (List.getElem_mem hlt) hc'.1 hc'.2
        have hcm := fun (H : AH) => combined46 (a := l[i]) (b := l[j]) (k := k) (H := H) hki (by rw [hlen _ (List.getElem_mem _), hlen _ (List.getElem_mem _)]) (by rw [hlen _ (List.getElem_mem _)]; exact hn) i1 i2
        rw [if_pos hc'] at hsn
        obtain ⟨p1, p2⟩ := hc
        clear hc' hgi hgj i1 i2 hlen hin
        (repeat' (first | (refine acx_dreg mixed (fun c A A' H e h => hPQ c A A' H e h) _ (SubH.refl _) ?_) | (refine (hcm _).use ?_) | (simp only [↓s_skip, ↓s_reg, ↓s_seq, ↓s_cond, ↓s_condT, ↓s_block, ↓s_dreg, ↓s_nil, ↓s_consN, ↓s_consG, ↓s_guardTT, ↓s_thenN, ↓s_kret, ↓s_putS, ↓s_dOkS, ↓s_ev_t, ↓s_ev_c, ↓s_ev_f, ↓s_upd, ↓s_move, ↓s_isBool, ↓s_pickA, ↓s_pick, ↓s_load, ↓s_bin, ↓s_buildSlice, ↓s_fieldAddr, ↓s_indexAddr, ↓s_callB, ↓s_callV, ↓s_callL, ↓s_len, ↓s_append, ↓s_bin_lss, ↓s_bin_gtr, intV, List.map_cons, List.map_nil, List.length_cons, List.length_nil, List.append_nil, ite_true, ite_false, Nat.reduceEqDiff, Nat.reduceLT, Nat.reduceAdd, Nat.reduceMul, Nat.reduceLeDiff, ne_eq, not_false_eq_true, true_and, Nat.succ_ne_self, decide_true, reduceCtorEq, Int.natCast_nonneg, Int.toNat_natCast, Nat.mul_one, ↓s_plFin, ↓s_plTkN, ↓s_plOneN, fillV, setAt, eq_self, Nat.zero_add, List.drop, and_self, ldV_f, ldV_t2, Int.ofNat_lt, cl_agg, List.set_cons_zero, List.set_cons_succ, Nat.le_refl, n_ldI, n_faI, n_ixS, n_ixA1, n_lenS, n_ldC, n_ldB, n_faA, ↓s_plK, ↓s_cutK, ↓s_plCutN, ↓s_oneK, vcBuildSlice, List.replicate_succ, List.replicate_zero, List.flatten_cons, List.flatten_nil, rows_drop, ints_drop, flT_39_0, ldT_39, ldT_3, ldT_37, zeroT_39, elT_22, elT_37, en_46, *]) | (exact SubH.refl _) | (with_reducible refine And.intro ?_ ?_)))
        refine OutR.append2 ho hml rfl (fun v' H'' ho2 => ?_)
        clear hcm hc1 hc2
        have hc1 := ho2.cells.1
        have hc2 := ho2.cells.2
        (repeat' (first | (simp only [↓s_reg, ↓s_nil, ↓s_consN, ↓s_thenN, ↓s_inN, ↓s_kret, ↓s_putS, ↓s_dOkS, ↓s_ev_t, ↓s_ev_c, ↓s_upd, ↓s_move, ↓s_assign, ↓s_bin, ↓s_bin_add, ite_true, ite_false, Nat.reduceEqDiff, Nat.reduceLT, true_and, Nat.succ_ne_self, eq_self, *]) | (with_reducible refine And.intro ?_ ?_)))
        all_goals rw [wrap_ok (n := (j : Int) + 1) (by omega) (by omega)]
        · refine ⟨j + 1, by omega, rfl, ?_⟩
          rw [hsn, ← List.append_assoc]
          exact ho2
        · omega
      · have hc' : ¬ (0 < l[i].c.getD k 0 ∧ l[j].c.getD k 0 < 0) := by rw [hgi, hgj]; exact hc
        rw [if_neg hc', List.append_nil] at hsn
        clear hc' hgi hgj hlen hin
        by_cases p1 : 0 < l[i].c[k]
        · have p2 : ¬ l[j].c[k] < 0 := fun h => hc ⟨p1, h⟩
          clear hc
          (repeat' (first | (simp only [↓s_skip, ↓s_reg, ↓s_seq, ↓s_cond, ↓s_condT, ↓s_condF, ↓s_block, ↓s_nil, ↓s_consN, ↓s_consG, ↓s_guardTT, ↓s_thenN, ↓s_inN, ↓s_kret, ↓s_putS, ↓s_dOkS, ↓s_ev_t, ↓s_ev_c, ↓s_upd, ↓s_move, ↓s_assign, ↓s_isBool, ↓s_pickA, ↓s_pick, ↓s_load, ↓s_bin, ↓s_fieldAddr, ↓s_indexAddr, ↓s_callB, ↓s_len, ↓s_bin_lss, ↓s_bin_gtr, ↓s_bin_add, intV, List.map_cons, List.map_nil, ite_true, ite_false, Nat.reduceEqDiff, Nat.reduceLT, ne_eq, not_false_eq_true, true_and, Nat.succ_ne_self, decide_true, decide_false, reduceCtorEq, Int.natCast_nonneg, Int.toNat_natCast, Nat.mul_one, eq_self, List.drop, and_self, ldV_f, Int.ofNat_lt, n_ldI, n_faI, n_ixS, n_ixA1, n_lenS, n_ldC, n_ldB, n_faA, rows_drop, ints_drop, flT_39_0, ldT_3, ldT_37, elT_22, elT_37, *]) | (with_reducible refine And.intro ?_ ?_)))
          all_goals rw [wrap_ok (n := (j : Int) + 1) (by omega) (by omega)]
          · refine ⟨j + 1, by omega, rfl, ?_⟩
            rw [hsn]
            exact ho
          · omega
        · clear hc
          (repeat' (first | (simp only [↓s_skip, ↓s_reg, ↓s_seq, ↓s_cond, ↓s_condT, ↓s_condF, ↓s_block, ↓s_nil, ↓s_consN, ↓s_consG, ↓s_guardFT, ↓s_thenN, ↓s_inN, ↓s_kret, ↓s_putS, ↓s_dOkS, ↓s_ev_t, ↓s_ev_c, ↓s_upd, ↓s_move, ↓s_assign, ↓s_isBool, ↓s_pickA, ↓s_pick, ↓s_load, ↓s_bin, ↓s_fieldAddr, ↓s_indexAddr, ↓s_callB, ↓s_len, ↓s_bin_lss, ↓s_bin_gtr, ↓s_bin_add, intV, List.map_cons, List.map_nil, ite_true, ite_false, Nat.reduceEqDiff, Nat.reduceLT, ne_eq, not_false_eq_true, true_and, Bool.false_eq_true, Nat.succ_ne_self, decide_true, decide_false, reduceCtorEq, Int.natCast_nonneg, Int.toNat_natCast, Nat.mul_one, callOk, undefV, eq_self, List.drop, and_self, ldV_f, Int.ofNat_lt, n_ldI, n_faI, n_ixS, n_ixA1, n_lenS, n_ldC, n_ldB, n_faA, undef, rows_drop, ints_drop, flT_39_0, ldT_3, ldT_37, elT_22, elT_37, *]) | (with_reducible refine And.intro ?_ ?_)))
          all_goals rw [wrap_ok (n := (j : Int) + 1) (by omega) (by omega)]
          · refine ⟨j + 1, by omega, rfl, ?_⟩
            rw [hsn]
            exact ho
          · omega
    · have hjl : j = l.length := by omega
      subst hjl
      rw [List.take_length] at ho
      clear hlen hin hgi
      (repeat' (first | (simp only [↓s_reg, ↓s_seq, ↓s_cond, ↓s_condF, ↓s_exit, ↓s_nil, ↓s_consN, ↓s_thenN, ↓s_thenE, ↓s_inE, ↓s_kret, ↓s_putS, ↓s_dOkS, ↓s_ev_t, ↓s_upd, ↓s_move, ↓s_bin, ↓s_callB, ↓s_len, ↓s_bin_lss, intV, List.map_cons, List.map_nil, ite_true, ite_false, Nat.reduceEqDiff, Nat.reduceLT, ne_eq, not_false_eq_true, Nat.succ_ne_self, decide_false, reduceCtorEq, eq_self, and_self, Int.ofNat_lt, n_lenS, elT_22, *])))
def step5 (k : Nat) (l : List Row) (a : Row) : List Row := (if a.c.getD k 0 = 0 then [a] else []) ++ pick6 k a l
theorem nextQ_eq (k : Nat) (l : List Row) : nextQ k l = l.flatMap (step5 k l) := rfl
theorem flat_len {k : Nat} {l : List Row} : ∀ m : List Row, (m.flatMap (step5 k l)).length ≤ m.length * (1 + l.length)
  | [] => by simp
  | a :: m => by
    have ih := flat_len (k := k) (l := l) m
    have h1 : (step5 k l a).length ≤ 1 + l.length := by
      have := @pick6_len k a l
      unfold step5
      rw [List.length_append]
      split
      · simp; omega
      · simp; omega
    rw [List.flatMap_cons, List.length_append, List.length_cons, Nat.add_mul, Nat.one_mul]
    omega
theorem flat_snoc {k : Nat} {l : List Row} {i : Nat} (h : i < l.length) : (l.take (i + 1)).flatMap (step5 k l) = (l.take i).flatMap (step5 k l) ++ step5 k l l[i] := by
  rw [take_snoc h, List.flatMap_append]
  simp
theorem loop20e {H0 H : AH} {t : Nat → VV} {l : List Row} {n k : Nat} {Q : APost} (hQ : noGoto Q) (hPQ : panQ Q) (h3 : t 3 = iV n) (h4 : t 4 = rowsV l) (h10 : t 10 = iV k) (h12 : t 12 = iV 0) (hk : k < n) (hn : n ≤ 1000)
    (hlen : ∀ r ∈ l, r.c.length = n) (hin : ∀ a ∈ l, ∀ b ∈ l, 0 < a.c.getD k 0 → b.c.getD k 0 < 0 → In64 (combU a b k).b ∧ ∀ c ∈ (combU a b k).c, In64 c)
    (hsz : l.length * (1 + l.length) + l.length + 1 ≤ 100000000) (ho : OutR H0 H (t 11) [])
    (hK : ∀ (t : Nat → VV) (H : AH), t 3 = iV n → t 10 = iV k → OutR H0 H (t 11) (nextQ k l) → Q .normal ⟨t, []⟩ H) :
    ACx ⟨Try.prog, 146, none⟩ (.loop q20_3) (inBlockA 8 Q) ⟨t, []⟩ H := by
  rw [nextQ_eq] at hK
  refine acx_loop (fun l A H h => hQ l A H h) (fun A H' => A.d = [] ∧ A.t 3 = iV n ∧ A.t 4 = rowsV l ∧ A.t 10 = iV k ∧ ∃ i : Nat, i ≤ l.length ∧ A.t 12 = iV i ∧ OutR H0 H' (A.t 11) ((l.take i).flatMap (step5 k l)))
    (fun A _ => match A.t 12 with | .lit (.int _ j) => ((l.length : Int) - j).toNat | _ => 0) ?_ ?_
  · exact ⟨rfl, h3, h4, h10, 0, by omega, h12, by simpa using ho⟩
  · clear h3 h4 h10 h12 ho
    rintro ⟨t, d⟩ H' ⟨rfl, h3, h4, h10, i, hi, h12, ho⟩
    dsimp only at h3 h4 h10 h12 ho
    obtain ⟨lv, h11⟩ : ∃ lv, lv = t 11 := ⟨_, rfl⟩
    rw [← h11] at ho
    replace h11 := h11.symm
    have hc1 := ho.cells.1
    have hc2 := ho.cells.2
    have hfl := flat_len (k := k) (l := l) (l.take i)
    rw [List.length_take, Nat.min_eq_left hi] at hfl
    have hfm : ((l.take i).flatMap (step5 k l)).length ≤ l.length * (1 + l.length) := Nat.le_trans hfl (Nat.mul_le_mul_right _ hi)
    unfold q20_3
    by_cases hlt : i < l.length
    · have hki : k < l[i].c.length := by rw [hlen _ (List.getElem_mem _)]; exact hk
      have hgi := getD_at hki
      have hsn := flat_snoc (k := k) (l := l) hlt
      have hs5 : step5 k l l[i] = (if l[i].c.getD k 0 = 0 then [l[i]] else []) ++ pick6 k l[i] l := rfl
      rw [hs5] at hsn
      clear hs5
      have fin : ∀ (t2 : Nat → VV) (H2 : AH) (acc : List Row), acc ++ pick6 k l[i] l = (l.take (i + 1)).flatMap (step5 k l) → acc.length + l.length ≤ 100000000 → t2 3 = iV n → t2 4 = rowsV l → t2 10 = iV k → t2 12 = iV i → t2 13 = iV 0 → OutR H0 H2 (t2 11) acc →
          ACx ⟨Try.prog, 146, none⟩ (.loop q20_2) (inBlockA 10 (inBlockA 9 (thenA (ACx ⟨Try.prog, 146, none⟩ c20_3 (thenA (fun A' H' => (A'.d = [] ∧ A'.t 3 = iV n ∧ A'.t 4 = rowsV l ∧ A'.t 10 = iV k ∧ ∃ i : Nat, i ≤ l.length ∧ A'.t 12 = iV i ∧ OutR H0 H' (A'.t 11) ((l.take i).flatMap (step5 k l))) ∧
            (match A'.t 12 with | .lit (.int _ j) => ((l.length : Int) - j).toNat | _ => 0) < ((l.length : Int) - i).toNat) (inBlockA 8 Q))) (thenA (fun A' H' => (A'.d = [] ∧ A'.t 3 = iV n ∧ A'.t 4 = rowsV l ∧ A'.t 10 = iV k ∧ ∃ i : Nat, i ≤ l.length ∧ A'.t 12 = iV i ∧ OutR H0 H' (A'.t 11) ((l.take i).flatMap (step5 k l))) ∧
            (match A'.t 12 with | .lit (.int _ j) => ((l.length : Int) - j).toNat | _ => 0) < ((l.length : Int) - i).toNat) (inBlockA 8 Q))))) ⟨t2, []⟩ H2 := fun t2 H2 acc he hs g3 g4 g10 g12 g13 go => by
        refine loop20f (fun l A H h => hQ l A H h) (fun c A A' H e h => hPQ c A A' H e h) g3 g4 g10 g12 g13 hlt hk hn hlen hin hs go (fun t3 H3 f3 f4 f10 f12 fo => ?_)
        rw [he] at fo
        show ACx _ c20_3 _ _ _
        refine vc_acx (fun l A H h => hQ l A H h) ?_
        unfold c20_3
        clear hsn hin hlen hgi ho hc1 hc2 h11 h3 h4 h10 h12
        (repeat' (first | (simp only [↓s_reg, ↓s_nil, ↓s_consN, ↓s_thenN, ↓s_kret, ↓s_putS, ↓s_dOkS, ↓s_ev_t, ↓s_ev_c, ↓s_upd, ↓s_move, ↓s_assign, ↓s_bin, ↓s_bin_add, ite_true, ite_false, Nat.reduceEqDiff, Nat.reduceLT, true_and, Nat.succ_ne_self, eq_self, *]) | (with_reducible refine And.intro ?_ ?_)))
        all_goals rw [wrap_ok (n := (i : Int) + 1) (by omega) (by omega)]
        · exact ⟨i + 1, by omega, rfl, fo⟩
        · show ((l.length : Int) - ((i : Int) + 1)).toNat < ((l.length : Int) - (i : Int)).toNat
          omega
      by_cases hz : l[i].c[k] = 0
      · have hz' : l[i].c.getD k 0 = 0 := by rw [hgi]; exact hz
        rw [if_pos hz'] at hsn
        clear hz' hgi hlen hin
        (repeat' (first | (simp only [↓s_skip, ↓s_reg, ↓s_seq, ↓s_seqL, ↓s_cond, ↓s_condT, ↓s_block, ↓s_nil, ↓s_consN, ↓s_thenN, ↓s_kret, ↓s_putS, ↓s_dOkS, ↓s_ev_t, ↓s_ev_c, ↓s_upd, ↓s_move, ↓s_load, ↓s_bin, ↓s_buildSlice, ↓s_fieldAddr, ↓s_indexAddr, ↓s_callB, ↓s_len, ↓s_append, ↓s_bin_lss, ↓s_bin_eql, intV, List.map_cons, List.map_nil, List.length_cons, List.length_nil, List.append_nil, ite_true, ite_false, Nat.reduceEqDiff, Nat.reduceLT, Nat.reduceAdd, Nat.reduceMul, Nat.reduceLeDiff, ne_eq, not_false_eq_true, true_and, Nat.succ_ne_self, decide_true, reduceCtorEq, Int.natCast_nonneg, Int.toNat_natCast, Nat.mul_one, fillV, setAt, eq_self, Nat.zero_add, List.drop, and_self, ldV_f, ldV_t2, Int.ofNat_lt, cl_agg, List.set_cons_zero, List.set_cons_succ, Nat.le_refl, n_ldI, n_faI, n_ixS, n_ixA1, n_lenS, n_ldC, n_ldB, n_faA, vcBuildSlice, List.replicate_succ, List.replicate_zero, List.flatten_cons, List.flatten_nil, rows_drop, ints_drop, flT_39_0, ldT_39, ldT_3, ldT_37, zeroT_39, elT_22, elT_37, *])))
        refine OutR.append2 (r := l[i]) ho (by omega) rfl (fun v' H'' ho2 => ?_)
        clear hc1 hc2
        have hc1 := ho2.cells.1
        have hc2 := ho2.cells.2
        (repeat' (first | (simp only [↓s_reg, ↓s_seq, ↓s_block, ↓s_loop, ↓s_nil, ↓s_consN, ↓s_thenN, ↓s_kret, ↓s_putS, ↓s_dOkS, ↓s_ev_t, ↓s_ev_c, ↓s_upd, ↓s_assign, ite_true, ite_false, Nat.reduceEqDiff, Nat.reduceLT, true_and, Nat.succ_ne_self, eq_self, *])))
        exact fin _ _ _ (by rw [List.append_assoc, hsn]) (by rw [List.length_append, List.length_singleton]; omega) (by simp only [s_upd, Nat.reduceEqDiff, if_false, *] <;> rfl) (by simp only [s_upd, Nat.reduceEqDiff, if_false, *] <;> rfl) (by simp only [s_upd, Nat.reduceEqDiff, if_false, *] <;> rfl) (by simp only [s_upd, Nat.reduceEqDiff, if_false, *] <;> rfl) (by simp only [s_upd, Nat.reduceEqDiff, if_true, if_false, *] <;> rfl) ho2
      · have hz' : ¬ l[i].c.getD k 0 = 0 := by rw [hgi]; exact hz
        rw [if_neg hz', List.nil_append] at hsn
        clear hz' hgi hlen hin
        (repeat' (first | (simp only [↓s_skip, ↓s_reg, ↓s_seq, ↓s_seqL, ↓s_cond, ↓s_condT, ↓s_condF, ↓s_block, ↓s_loop, ↓s_nil, ↓s_consN, ↓s_thenN, ↓s_kret, ↓s_putS, ↓s_dOkS, ↓s_ev_t, ↓s_ev_c, ↓s_upd, ↓s_move, ↓s_assign, ↓s_load, ↓s_bin, ↓s_fieldAddr, ↓s_indexAddr, ↓s_callB, ↓s_len, ↓s_bin_lss, ↓s_bin_eql, intV, List.map_cons, List.map_nil, ite_true, ite_false, Nat.reduceEqDiff, Nat.reduceLT, ne_eq, not_false_eq_true, true_and, Nat.succ_ne_self, decide_true, decide_false, reduceCtorEq, Int.natCast_nonneg, Int.toNat_natCast, Nat.mul_one, eq_self, List.drop, and_self, ldV_f, Int.ofNat_lt, n_ldI, n_faI, n_ixS, n_ixA1, n_lenS, n_ldC, n_ldB, n_faA, rows_drop, ints_drop, flT_39_0, ldT_3, ldT_37, elT_22, elT_37, *])))
        exact fin _ _ _ hsn.symm (by omega) (by simp only [s_upd, Nat.reduceEqDiff, if_false, *] <;> rfl) (by simp only [s_upd, Nat.reduceEqDiff, if_false, *] <;> rfl) (by simp only [s_upd, Nat.reduceEqDiff, if_false, *] <;> rfl) (by simp only [s_upd, Nat.reduceEqDiff, if_false, *] <;> rfl) (by simp only [s_upd, Nat.reduceEqDiff, if_true, if_false, *] <;> rfl) (by simp only [s_upd, Nat.reduceEqDiff, if_false, h11]; exact ho)
    · have hjl : i = l.length := by omega
      subst hjl
      rw [List.take_length] at ho
      clear hlen hin
      (repeat' (first | (simp only [↓s_reg, ↓s_seq, ↓s_cond, ↓s_condF, ↓s_exit, ↓s_nil, ↓s_consN, ↓s_thenN, ↓s_thenE, ↓s_inE, ↓s_kret, ↓s_putS, ↓s_dOkS, ↓s_ev_t, ↓s_upd, ↓s_move, ↓s_bin, ↓s_callB, ↓s_len, ↓s_bin_lss, intV, List.map_cons, List.map_nil, ite_true, ite_false, Nat.reduceEqDiff, Nat.reduceLT, ne_eq, not_false_eq_true, Nat.succ_ne_self, decide_false, reduceCtorEq, eq_self, and_self, Int.ofNat_lt, n_lenS, elT_22, *])))
end Go.PV.Ytefpjfpelicedaa
end
section
/- The reference's Rational. -/
set_option linter.unusedVariables false
set_option linter.unusedSimpArgs false
set_option maxRecDepth 20000
set_option maxHeartbeats 4000000
namespace Go.PV.Ytefpjfpelicedaa
open Go Go.Proofs
theorem combU_bd {a b : Row} {k : Nat} {C B : Int} (ha : Bd C B a) (hb : Bd C B b) (hC : 0 ≤ C ∧ C ≤ 1000000) (hB : 0 ≤ B ∧ B ≤ 1000000000000) (h1 : 0 < a.c.getD k 0) (h2 : b.c.getD k 0 < 0) :
    Bd (2 * (C * C)) (2 * (B * C)) (combU a b k) ∧ In64 (combU a b k).b ∧ ∀ c ∈ (combU a b k).c, In64 c := by
  have e := combU_val ha hb (n := 0) hC hB h1 h2
  have ga := bd_get ha hC.1 k
  have gb := bd_get hb hC.1 k
  have cc : C * C ≤ 1000000 * 1000000 := Int.mul_le_mul hC.2 hC.2 hC.1 (by omega)
  have bc : B * C ≤ 1000000000000 * 1000000 := Int.mul_le_mul hB.2 hC.2 hC.1 (by omega)
  have hu : Bd (2 * (C * C)) (2 * (B * C)) (combU a b k) := by
    rw [e]
    refine ⟨sumL_bd ha.1 hb.1 (by omega) (by omega), ?_⟩
    have x1 := abs_mul ha.2 (show 0 ≤ -(b.c.getD k 0) ∧ -(b.c.getD k 0) ≤ C by omega)
    have x2 := abs_mul hb.2 (show 0 ≤ a.c.getD k 0 ∧ a.c.getD k 0 ≤ C by omega)
    simp only
    omega
  refine ⟨hu, ?_, fun c hc => ?_⟩
  · have := hu.2
    unfold In64; omega
  · have := hu.1 c hc
    unfold In64; omega
theorem redF_bd {u : Row} {C B : Int} (h : Bd C B u) (hb : In64 u.b) (hc : ∀ c ∈ u.c, In64 c) : Bd C B (redF u) ∧ (redF u).c.length = u.c.length := by
  rcases redF_val hb hc with e | ⟨g, g0, gb, gc, e⟩
  · rw [e]; exact ⟨h, rfl⟩
  · rw [e]
    refine ⟨⟨fun c hc => ?_, abs_tdiv h.2⟩, by simp⟩
    obtain ⟨x, hx, rfl⟩ := List.mem_map.1 hc
    exact abs_tdiv (h.1 x hx)
def BdRows (n : Nat) (C B : Int) (l : List Row) : Prop := ∀ r ∈ l, r.c.length = n ∧ Bd C B r
theorem nextQ_bd {n k : Nat} {C B : Int} {l : List Row} (h : BdRows n C B l) (hC : 1 ≤ C ∧ C ≤ 1000000) (hB : 0 ≤ B ∧ B ≤ 1000000000000) : BdRows n (2 * (C * C)) (2 * (B * C)) (nextQ k l) := by
  have gC : C ≤ 2 * (C * C) := by
    have := Int.mul_le_mul_of_nonneg_left (show 1 ≤ C by omega) (show 0 ≤ C by omega)
    omega
  have gB : B ≤ 2 * (B * C) := by
    have := Int.mul_le_mul_of_nonneg_left (show 1 ≤ C by omega) hB.1
    omega
  intro r hr
  unfold nextQ at hr
  obtain ⟨a, ha, hr⟩ := List.mem_flatMap.1 hr
  rcases List.mem_append.1 hr with hr | hr
  · split at hr
    · rw [List.mem_singleton.1 hr]
      exact ⟨(h a ha).1, (h a ha).2.mono gC gB⟩
    · cases hr
  · obtain ⟨b, hb, rfl⟩ := List.mem_map.1 hr
    obtain ⟨hb, hc⟩ := List.mem_filter.1 hb
    rw [Bool.and_eq_true, decide_eq_true_eq, decide_eq_true_eq] at hc
    obtain ⟨u1, u2, u3⟩ := combU_bd (h a ha).2 (h b hb).2 ⟨by omega, hC.2⟩ hB hc.1 hc.2
    obtain ⟨r1, r2⟩ := redF_bd u1 u2 u3
    refine ⟨?_, r1⟩
    show (redF (combU a b k)).c.length = n
    rw [r2]
    simp [combU, (h a ha).1, (h b hb).1]
def LvL : Nat → Nat → Prop
  | 0, _ => True
  | r + 1, L => L * (1 + L) + L + 1 ≤ 100000000 ∧ LvL r (L * (1 + L))
theorem loop20d {H0 H : AH} {t : Nat → VV} {l0 : List Row} {n L0 : Nat} {C0 B0 : Int} {Q : APost} (hQ : noGoto Q) (hPQ : panQ Q) (h3 : t 3 = iV n) (h10 : t 10 = iV 0) (hn : n ≤ 1000) (hb0 : BdRows n C0 B0 l0) (hv0 : LvQ n C0 B0) (hL0 : LvL n L0) (hl0 : l0.length ≤ L0)
    (ho : OutR H0 H (t 4) l0) (hs0 : L0 ≤ 100000000) (hK : ∀ (t : Nat → VV), t 4 = rowsV (ratGo n n 0 l0) → (ratGo n n 0 l0).length ≤ 100000000 → Q .normal ⟨t, []⟩ H0) :
    ACx ⟨Try.prog, 146, none⟩ (.loop q20_4) (inBlockA 6 Q) ⟨t, []⟩ H := by
  refine acx_loopG (fun l A H h => hQ l A H h) (fun A H' => A.d = [] ∧ A.t 3 = iV n ∧ ∃ (k : Nat) (l : List Row) (C B : Int) (L : Nat), k ≤ n ∧ A.t 10 = iV k ∧ ratGo n n 0 l0 = ratGo n (n - k) k l ∧ BdRows n C B l ∧ LvQ (n - k) C B ∧ LvL (n - k) L ∧ (l.length ≤ L ∧ L ≤ 100000000) ∧ OutR H0 H' (A.t 4) l)
    (fun A _ => match A.t 10 with | .lit (.int _ j) => ((n : Int) - j).toNat | _ => 0) ?_ ?_
  · exact ⟨rfl, h3, 0, l0, C0, B0, L0, by omega, h10, rfl, hb0, hv0, hL0, ⟨hl0, hs0⟩, ho⟩
  · clear h3 h10 ho hb0 hv0 hL0 hl0
    rintro ⟨t, d⟩ H' ⟨rfl, h3, k, l, C, B, L, hk, h10, hgo, hb, hv, hL, ⟨hl, hl8⟩, ho⟩
    dsimp only at h3 h10 ho
    refine ⟨_, _, Ghost.slot (i := 4) (x' := rowsV l) (H' := H0) ho.back, ?_⟩
    obtain ⟨t', ht'⟩ : ∃ t', t' = upd t 4 (rowsV l) := ⟨_, rfl⟩
    have g3 : t' 3 = iV n := by rw [ht']; exact h3
    have g4 : t' 4 = rowsV l := by rw [ht']; rfl
    have g10 : t' 10 = iV k := by rw [ht']; exact h10
    show vc _ _ _ ⟨upd t 4 (rowsV l), []⟩ H0
    rw [← ht']
    dsimp only
    rw [h10]
    clear ht' h3 h10 ho
    unfold q20_4
    by_cases hlt : k < n
    · obtain ⟨r, hr⟩ : ∃ r, n - k = r + 1 := ⟨n - k - 1, by omega⟩
      rw [hr] at hgo hv hL
      obtain ⟨v1, v2, v3⟩ := hv
      obtain ⟨L1, L2⟩ := hL
      have hmul := Nat.mul_le_mul hl (show 1 + l.length ≤ 1 + L by omega)
      have hnl : (nextQ k l).length ≤ L * (1 + L) := by rw [nextQ_eq]; exact Nat.le_trans (flat_len l) hmul
      have hnb := nextQ_bd (k := k) hb v1 v2
      have hin : ∀ a ∈ l, ∀ b ∈ l, 0 < a.c.getD k 0 → b.c.getD k 0 < 0 → In64 (combU a b k).b ∧ ∀ c ∈ (combU a b k).c, In64 c := fun a ha b hb' h1 h2 => (combU_bd (hb a ha).2 (hb b hb').2 ⟨by omega, v1.2⟩ v2 h1 h2).2
      have hgo2 : ratGo n n 0 l0 = ratGo n (n - (k + 1)) (k + 1) (nextQ k l) := by
        rw [hgo, ratGo]; congr 1; omega
      have hv' : LvQ (n - (k + 1)) (2 * (C * C)) (2 * (B * C)) := by rw [show n - (k + 1) = r from by omega]; exact v3
      have hL' : LvL (n - (k + 1)) (L * (1 + L)) := by rw [show n - (k + 1) = r from by omega]; exact L2
      have hlenr : ∀ r ∈ l, r.c.length = n := fun r h => (hb r h).1
      clear hgo v3 L2 hr hb hK
      (repeat' (first | (simp only [↓s_skip, ↓s_reg, ↓s_seq, ↓s_seqL, ↓s_cond, ↓s_condT, ↓s_block, ↓s_loop, ↓s_nil, ↓s_consN, ↓s_thenN, ↓s_kret, ↓s_putS, ↓s_dOkS, ↓s_ev_t, ↓s_ev_c, ↓s_upd, ↓s_move, ↓s_assign, ↓s_bin, ↓s_buildSlice, ↓s_bin_lss, List.map_nil, List.length_cons, List.length_nil, ite_true, ite_false, Nat.reduceEqDiff, Nat.reduceLT, Nat.reduceAdd, Nat.reduceMul, Nat.reduceLeDiff, true_and, Nat.succ_ne_self, decide_true, fillV, eq_self, Nat.zero_add, and_self, Int.ofNat_lt, vcBuildSlice, List.replicate_zero, List.flatten_nil, zeroT_39, elT_22, *])))
      refine loop20e (fun l A H h => hQ l A H h) (fun c A A' H e h => hPQ c A A' H e h) (by simp only [s_upd, Nat.reduceEqDiff, if_false, *] <;> rfl) (by simp only [s_upd, Nat.reduceEqDiff, if_false, *] <;> rfl) (by simp only [s_upd, Nat.reduceEqDiff, if_false, *] <;> rfl) (by simp only [s_upd, Nat.reduceEqDiff, if_true, if_false, *] <;> rfl) hlt hn hlenr hin (by omega) (.inl ⟨(by simp only [s_upd, Nat.reduceEqDiff, if_true, if_false, *] <;> rfl), rfl, SubH.refl _⟩) (fun t2 H2 f3 f10 fo => ?_)
      show ACx _ c20_4 _ _ _
      refine vc_acx (fun l A H h => hQ l A H h) ?_
      unfold c20_4
      obtain ⟨mv, f11⟩ : ∃ mv, mv = t2 11 := ⟨_, rfl⟩
      rw [← f11] at fo
      replace f11 := f11.symm
      clear hin hlenr
      (repeat' (first | (refine acx_go rfl (fun l A H h => hQ l A H h) ?_) | (simp only [↓s_reg, ↓s_nil, ↓s_consN, ↓s_thenN, ↓s_inN, ↓s_kret, ↓s_putS, ↓s_dOkS, ↓s_ev_t, ↓s_ev_c, ↓s_upd, ↓s_move, ↓s_assign, ↓s_bin, ↓s_bin_add, ite_true, ite_false, Nat.reduceEqDiff, Nat.reduceLT, true_and, Nat.succ_ne_self, eq_self, c20_5, *]) | (with_reducible refine And.intro ?_ ?_)))
      all_goals rw [wrap_ok (n := (k : Int) + 1) (by omega) (by omega)]
      · exact ⟨k + 1, nextQ k l, _, _, _, by omega, rfl, rfl, hnb, hv', hL', ⟨hnl, by omega⟩, fo⟩
      · omega
    · have hkn : k = n := by omega
      subst hkn
      rw [Nat.sub_self, ratGo] at hgo
      rw [hgo] at hK
      have hl9 : l.length ≤ 100000000 := by omega
      clear hb hv hL
      (repeat' (first | (simp only [↓s_reg, ↓s_seq, ↓s_cond, ↓s_condF, ↓s_exit, ↓s_nil, ↓s_consN, ↓s_thenN, ↓s_thenE, ↓s_inE, ↓s_kret, ↓s_putS, ↓s_dOkS, ↓s_ev_t, ↓s_upd, ↓s_move, ↓s_bin, ↓s_bin_lss, ite_true, ite_false, Nat.reduceEqDiff, Nat.reduceLT, Nat.succ_ne_self, decide_false, eq_self, and_self, Int.ofNat_lt, *])))
def Q20 (H : AH) (b : Bool) : APost := retPost Try.prog [.tmp 2] fun e H' => e = .ret (boolV b) ∧ SubH H H'
theorem q20_go (H : AH) (b : Bool) : noGoto (Q20 H b) := fun _ _ _ h => h
theorem q20_pan (H : AH) (b : Bool) : panQ (Q20 H b) := fun _ _ _ _ e h => ⟨e.trans h.1, h.2⟩
theorem lvl_small {n : Nat} (h : n ≤ 3) : LvL n 8 := by
  have h3 : LvL 3 8 := ⟨by decide, by decide, by decide, trivial⟩
  rcases n with _ | _ | _ | _ | n
  · trivial
  · exact ⟨h3.1, trivial⟩
  · exact ⟨h3.1, h3.2.1, trivial⟩
  · exact h3
  · omega
theorem rational20 (rows : List Row) (hn : unkN rows ≤ 3) (hl : rows.length ≤ 5) (hs : ∀ r ∈ rows, smallRow r) : PureF Try.prog 20 [rowsV rows] (boolV (ratF rows)) := by
  refine PureF.forget fun H => ?_
  refine vcalls_intro fd20 (by simp) ?_
  rw [ce20]
  unfold e20
  have hu := unkN_eq rows
  have h1 : (rows.length : Int) ≤ 9223372036854775806 := by omega
  have hQ := q20_go H (ratF rows)
  have hPQ := q20_pan H (ratF rows)
  show vc _ _ (Q20 H (ratF rows)) _ _
  (repeat' (first | (simp only [↓s_reg, ↓s_seq, ↓s_seqL, ↓s_block, ↓s_loop, ↓s_nil, ↓s_consN, ↓s_thenN, ↓s_kret, ↓s_putS, ↓s_dOkS, ↓s_ev_t, ↓s_ev_c, ↓s_ev_f, ↓s_upd, ↓s_move, ↓s_assign, ↓s_buildSlice, ↓s_callV, ↓s_callL, List.map_cons, List.map_nil, List.length_cons, List.length_nil, List.getD_cons_zero, List.getD_cons_succ, List.getD_nil, ite_true, ite_false, Nat.reduceEqDiff, Nat.reduceLT, Nat.reduceAdd, Nat.reduceMul, Nat.reduceLeDiff, true_and, Nat.succ_ne_self, reduceCtorEq, undefV, fillV, eq_self, Nat.zero_add, and_self, undef, vcBuildSlice, List.replicate_zero, List.flatten_nil, zeroT_39, elT_22, en_10, *]) | (refine PureF.use (unknowns10 _ h1) ?_)))
  refine loop20a (n := unkN rows) (rows := rows) (H0 := H) hQ hPQ rfl (by simp only [s_upd, Nat.reduceEqDiff, if_true, if_false]) rfl (by omega) (by omega) (.inl ⟨rfl, rfl, SubH.refl _⟩) (fun t H2 g3 hg => ?_)
  obtain ⟨H3, gg, go⟩ := hg
  refine acx_ghost (gg _ _) (vc_acx (fun l A H h => hQ l A H h) ?_)
  unfold e20_9
  dsimp only at go
  obtain ⟨lv, h4⟩ : ∃ lv, lv = t 4 := ⟨_, rfl⟩
  rw [← h4] at go
  replace h4 := h4.symm
  (repeat' (first | (simp only [↓s_reg, ↓s_seq, ↓s_seqL, ↓s_block, ↓s_loop, ↓s_nil, ↓s_consN, ↓s_thenN, ↓s_putS, ↓s_dOkS, ↓s_ev_c, ↓s_assign, Nat.reduceLT, true_and, *])))
  refine loop20c (n := unkN rows) (H0 := H) (l0 := rows.map fun r => wideR r (unkN rows)) hQ hPQ (by simp only [s_upd, Nat.reduceEqDiff, if_false, *] <;> rfl) (by simp only [s_upd, if_true, *] <;> rfl) (by omega) (by simp; omega) (by simp only [s_upd, Nat.reduceEqDiff, if_false, h4]; exact go) (fun t H2 g3 hg => ?_)
  obtain ⟨H4, gg, go⟩ := hg
  refine acx_ghost (gg _ _) (vc_acx (fun l A H h => hQ l A H h) ?_)
  unfold e20_8
  dsimp only at go
  clear h4
  obtain ⟨lv, h4⟩ : ∃ lv, lv = t 4 := ⟨_, rfl⟩
  rw [← h4] at go
  replace h4 := h4.symm
  (repeat' (first | (simp only [↓s_reg, ↓s_seq, ↓s_seqL, ↓s_block, ↓s_loop, ↓s_nil, ↓s_consN, ↓s_thenN, ↓s_putS, ↓s_dOkS, ↓s_ev_c, ↓s_assign, Nat.reduceLT, true_and, *])))
  refine loop20d (n := unkN rows) (H0 := H) (L0 := 8) (C0 := 10) (B0 := 100) (l0 := rows.map (fun r => wideR r (unkN rows)) ++ (List.range (unkN rows)).map (unitR (unkN rows))) (fun l A H h => hQ l A H h) (fun c A A' H e h => hPQ c A A' H e h) (by simp only [s_upd, Nat.reduceEqDiff, if_false, *] <;> rfl) (by simp only [s_upd, if_true, *] <;> rfl) (by omega) (fun r hr => ?_) (lvq_small hn) (lvl_small hn) (by simp; omega) (by simp only [s_upd, Nat.reduceEqDiff, if_false, h4]; exact go) (by omega) (fun t g4 hlen => ?_)
  · rcases List.mem_append.1 hr with hr | hr
    · obtain ⟨q, hq, rfl⟩ := List.mem_map.1 hr
      exact ⟨wide_len _ _, wide_small (fun r h => len_unkN h) hs q hq⟩
    · obtain ⟨i, hi, rfl⟩ := List.mem_map.1 hr
      exact ⟨by simp [unitR], unit_small _ _⟩
  · show ACx _ e20_7 _ _ _
    refine vc_acx (fun l A H h => hQ l A H h) ?_
    unfold e20_7
    have hrat : ratF rows = (ratGo (unkN rows) (unkN rows) 0 (rows.map (fun r => wideR r (unkN rows)) ++ (List.range (unkN rows)).map (unitR (unkN rows)))).all fun r => decide (0 ≤ r.b) := rfl
    generalize ratGo (unkN rows) (unkN rows) 0 (rows.map (fun r => wideR r (unkN rows)) ++ (List.range (unkN rows)).map (unitR (unkN rows))) = l at *
    rw [hrat]
    clear hrat hQ hPQ
    unfold Q20
    (repeat' (first | (simp only [↓s_reg, ↓s_seq, ↓s_seqL, ↓s_block, ↓s_loop, ↓s_nil, ↓s_consN, ↓s_thenN, ↓s_putS, ↓s_dOkS, ↓s_ev_c, ↓s_assign, boolV, Nat.reduceLT, true_and, *])))
    refine acx_loop (fun _ _ _ h => h) (fun A H' => H' = H ∧ A.d = [] ∧ A.t 4 = rowsV l ∧ ∃ i : Nat, i ≤ l.length ∧ A.t 14 = iV i ∧ (l.all fun r => decide (0 ≤ r.b)) = ((l.drop i).all fun r => decide (0 ≤ r.b)))
      (fun A _ => match A.t 14 with | .lit (.int _ i) => ((l.length : Int) - i).toNat | _ => 0) ?_ ?_
    · exact ⟨rfl, rfl, (by simp only [s_upd, Nat.reduceEqDiff, if_false, *] <;> rfl), 0, by omega, rfl, rfl⟩
    · clear g4
      rintro ⟨t, d⟩ H' ⟨rfl, rfl, g4, i, hi, h14, hgo⟩
      dsimp only at g4 h14
      unfold q20_1
      rw [hgo]
      clear hgo
      by_cases hlt : i < l.length
      · have hd : (l.drop i).all (fun r => decide (0 ≤ r.b)) = (decide (0 ≤ l[i].b) && (l.drop (i + 1)).all fun r => decide (0 ≤ r.b)) := by rw [List.drop_eq_getElem_cons hlt, List.all_cons]
        rw [hd]
        clear hd
        by_cases hb : l[i].b < 0
        · rw [decide_eq_false (show ¬ 0 ≤ l[i].b by omega), Bool.false_and]
          (repeat' (first | (simp only [↓s_skip, ↓s_reg, ↓s_seq, ↓s_cond, ↓s_condT, ↓s_block, ↓s_ret, ↓s_nil, ↓s_consN, ↓s_thenN, ↓s_thenR, ↓s_inR, ↓s_kret, ↓s_putS, ↓s_dOkS, ↓s_ev_t, ↓s_ev_c, ↓s_upd, ↓s_move, ↓s_assign, ↓s_load, ↓s_bin, ↓s_fieldAddr, ↓s_indexAddr, ↓s_callB, ↓s_len, ↓s_bin_lss, intV, List.map_cons, List.map_nil, ite_true, ite_false, Nat.reduceEqDiff, Nat.reduceLT, ne_eq, not_false_eq_true, true_and, Nat.succ_ne_self, decide_true, reduceCtorEq, Int.natCast_nonneg, Int.toNat_natCast, eq_self, List.drop, and_self, ldV_f, Int.ofNat_lt, n_ldI, n_faI, n_ixS, n_ixA1, n_lenS, n_ldC, n_ldB, n_faA, rows_drop, flT_39_1, ldT_3, elT_22, *]) | (refine ret_tmp ?_) | (exact SubH.refl _)))
        · rw [decide_eq_true (show 0 ≤ l[i].b by omega), Bool.true_and]
          (repeat' (first | (simp only [↓s_skip, ↓s_reg, ↓s_seq, ↓s_cond, ↓s_condT, ↓s_condF, ↓s_block, ↓s_nil, ↓s_consN, ↓s_thenN, ↓s_inN, ↓s_kret, ↓s_putS, ↓s_dOkS, ↓s_ev_t, ↓s_ev_c, ↓s_upd, ↓s_move, ↓s_assign, ↓s_load, ↓s_bin, ↓s_fieldAddr, ↓s_indexAddr, ↓s_callB, ↓s_len, ↓s_bin_lss, ↓s_bin_add, intV, List.map_cons, List.map_nil, ite_true, ite_false, Nat.reduceEqDiff, Nat.reduceLT, ne_eq, not_false_eq_true, true_and, Nat.succ_ne_self, decide_true, decide_false, reduceCtorEq, Int.natCast_nonneg, Int.toNat_natCast, eq_self, List.drop, and_self, ldV_f, Int.ofNat_lt, n_ldI, n_faI, n_ixS, n_ixA1, n_lenS, n_ldC, n_ldB, n_faA, rows_drop, flT_39_1, ldT_3, elT_22, *]) | (with_reducible refine And.intro ?_ ?_)))
          all_goals rw [wrap_ok (n := (i : Int) + 1) (by omega) (by omega)]
          · exact ⟨i + 1, by omega, rfl, rfl⟩
          · omega
      · rw [List.drop_eq_nil_of_le (by omega), List.all_nil]
        unfold c20_6
        (repeat' (first | (simp only [↓s_reg, ↓s_seq, ↓s_cond, ↓s_condF, ↓s_exit, ↓s_ret, ↓s_nil, ↓s_consN, ↓s_thenN, ↓s_thenE, ↓s_inE, ↓s_kret, ↓s_putS, ↓s_dOkS, ↓s_ev_t, ↓s_ev_c, ↓s_upd, ↓s_move, ↓s_assign, ↓s_bin, ↓s_callB, ↓s_len, ↓s_bin_lss, intV, List.map_cons, List.map_nil, ite_true, ite_false, Nat.reduceEqDiff, Nat.reduceLT, ne_eq, not_false_eq_true, true_and, Nat.succ_ne_self, decide_false, reduceCtorEq, eq_self, Int.ofNat_lt, n_lenS, elT_22, *]) | (refine ret_tmp ?_) | (refine acx_go rfl (fun _ _ _ h => h) ?_) | (exact SubH.refl _)))
end Go.PV.Ytefpjfpelicedaa
end
section
/- The reference: a certificate's error. -/
set_option linter.unusedVariables false
set_option linter.unusedSimpArgs false
set_option maxRecDepth 20000
set_option maxHeartbeats 4000000
namespace Go.PV.Ytefpjfpelicedaa
open Go Go.Proofs
theorem check14 (rows : List Row) (ls : List Line) (h1 : (rows.length : Int) ≤ 9223372036854775806) (h2 : (ls.length : Int) ≤ 9223372036854775806) : PureF Try.prog 14 [rowsV rows, linesV ls] (iV (checkF rows ls)) := by
  refine PureF.forget fun H => ?_
  refine vcalls_intro fd14 (by simp) ?_
  unfold c14
  have hl := deriveF_len rows ls
  have hf := deriveF_ok rows ls
  have hd := derive27 rows ls h1 h2
  unfold checkF
  generalize hp : deriveF rows ls = p at hl hf hd ⊢
  clear hp
  have hw : IntKind.i64.wrap ((p.1.length : Int) - 1) = (p.1.length : Int) - 1 := wrap_ok (by omega) (by omega)
  by_cases he : p.2 = 0
  · by_cases h0 : p.1 = []
    · have h0' : (p.1.length : Int) = 0 := by simp [h0]
      have e : lastF p.1 = 260 := by simp [lastF, h0]
      clear h0
      (repeat' (first | (simp only [↓s_skip, ↓s_reg, ↓s_seq, ↓s_cond, ↓s_condT, ↓s_condF, ↓s_ret, ↓s_nil, ↓s_consN, ↓s_thenN, ↓s_thenR, ↓s_kret, ↓s_putS, ↓s_dOkS, ↓s_ev_t, ↓s_ev_c, ↓s_ev_f, ↓s_upd, ↓s_move, ↓s_assign, ↓s_bin, ↓s_extract, ↓s_callB, ↓s_callV, ↓s_callL, ↓s_len, ↓s_bin_eql, ↓s_bin_neq, vcExtract, intV, List.map_cons, List.map_nil, List.getD_cons_zero, List.getD_cons_succ, List.getD_nil, ite_true, ite_false, Nat.reduceEqDiff, Nat.reduceLT, ne_eq, not_false_eq_true, true_and, Nat.succ_ne_self, decide_true, Bool.not_true, reduceCtorEq, undefV, eq_self, List.getElem?_cons_zero, List.getElem?_cons_succ, n_lenS, undef, elT_22, en_27, *]) | (refine ret_tmp ?_) | (exact SubH.refl _) | (refine PureF.use (hd) ?_)))
    · have h0' : ¬ (p.1.length : Int) = 0 := fun e => h0 (List.eq_nil_of_length_eq_zero (by omega))
      have h3 : 0 ≤ (p.1.length : Int) - 1 := by omega
      have h4 : (p.1.length : Int) - 1 < p.1.length := by omega
      have hm : rowAt p.1 ((p.1.length : Int) - 1) ∈ p.1 := by
        unfold rowAt
        rw [List.getD_eq_getElem?_getD]
        have h5 : ((p.1.length : Int) - 1).toNat < p.1.length := by omega
        simp only [h5, List.getElem?_eq_getElem, Option.getD_some]; exact List.getElem_mem _
      have h6 := (hf _ hm).1.1
      have h7 := (hf _ hm).2
      have e : lastF p.1 = if absurdF (rowAt p.1 ((p.1.length : Int) - 1)) = false then 260 else 0 := by simp [lastF, h0]
      rw [if_pos he, e]
      generalize hr : rowAt p.1 ((p.1.length : Int) - 1) = r at h6
      have hlen : (r.c.length : Int) ≤ 12 := by omega
      clear h6 hm h0 e
      (repeat' (first | (simp only [↓s_skip, ↓s_reg, ↓s_seq, ↓s_seqL, ↓s_cond, ↓s_condF, ↓s_block, ↓s_loop, ↓s_nil, ↓s_consN, ↓s_thenN, ↓s_kret, ↓s_putS, ↓s_putN, ↓s_dOkS, ↓s_dOkN, ↓s_ev_t, ↓s_ev_c, ↓s_ev_f, ↓s_upd, ↓s_move, ↓s_assign, ↓s_load, ↓s_store, ↓s_bin, ↓s_alloc, ↓s_indexAddr, ↓s_extract, ↓s_callB, ↓s_callV, ↓s_callL, ↓s_len, ↓s_bin_eql, ↓s_bin_neq, ↓s_bin_sub, vcExtract, ptrV, intV, List.map_cons, List.map_nil, List.length_cons, List.length_nil, List.getD_cons_zero, List.getD_cons_succ, List.getD_nil, ite_true, ite_false, Nat.reduceEqDiff, Nat.reduceLT, Nat.reduceAdd, ne_eq, not_false_eq_true, true_and, Nat.succ_ne_self, decide_true, decide_false, Bool.not_true, reduceCtorEq, undefV, AH.get, AH.set_set, setAt, List.all_cons, List.all_nil, Bool.and_self, eq_self, Nat.zero_add, and_self, List.getElem?_cons_zero, List.getElem?_cons_succ, ldV_t2, on_int, cl_agg, on_slice, List.set_cons_zero, List.set_cons_succ, ↓n_alloc, n_allocS, Nat.le_refl, n_ldI, n_ixS, n_ixA1, n_lenS, n_ldC, n_ldB, n_stP, n_stA, undef, rows_dropZ, ldT_39, szT_39, zeroT_39, elT_22, en_27, *]) | (refine allNew_intro fun zr zh => ?_; have zg := zh; (try simp only [AH.set_none] at zg)) | (refine PureF.use (hd) ?_)))
      refine acx_loop (fun _ _ _ h => h) (fun A H' => SubH H H' ∧ A.d = [] ∧ A.t 7 = ptrV zr 0 ∧ H' zr = some (.cells 39 (rowE r) 0) ∧ ∃ i : Nat, i ≤ r.c.length ∧ A.t 8 = iV i ∧ (r.c.any fun c => !decide (c = 0)) = ((r.c.drop i).any fun c => !decide (c = 0)))
        (fun A _ => match A.t 8 with | .lit (.int _ i) => ((r.c.length : Int) - i).toNat | _ => 0) ?_ ?_
      · exact ⟨SubH.new (by assumption), rfl, rfl, AH.set_same _ _ _, 0, by simp, rfl, rfl⟩
      · rintro ⟨t, d⟩ H' ⟨hs, rfl, h7', kz, i, hi, h8, hgo⟩
        dsimp only at h7' h8
        have hdr : ∀ (h : i < r.c.length), ((r.c.drop i).any fun c => !decide (c = 0)) = (!decide (r.c[i] = 0) || ((r.c.drop (i + 1)).any fun c => !decide (c = 0))) := fun h => by rw [List.drop_eq_getElem_cons h, List.any_cons]
        unfold absurdF
        rw [hgo]
        clear hgo
        (repeat' (first | (simp only [↓s_skip, ↓s_reg, ↓s_seq, ↓s_cond, ↓s_block, ↓s_exit, ↓s_ret, ↓s_nil, ↓s_consN, ↓s_thenN, ↓s_thenE, ↓s_thenR, ↓s_inN, ↓s_inE, ↓s_inR, ↓s_kret, ↓s_putS, ↓s_dOkS, ↓s_ev_t, ↓s_ev_c, ↓s_upd, ↓s_move, ↓s_assign, ↓s_load, ↓s_bin, ↓s_fieldAddr, ↓s_indexAddr, ↓s_callB, ↓s_len, ↓s_bin_lss, ↓s_bin_geq, ↓s_bin_neq, ↓s_bin_add, ptrV, intV, List.map_cons, List.map_nil, ite_true, ite_false, Nat.reduceEqDiff, Nat.reduceLT, ne_eq, not_false_eq_true, true_and, and_true, Nat.succ_ne_self, decide_true, decide_false, Bool.not_true, Bool.and_false, Bool.true_or, Bool.false_or, reduceCtorEq, Int.natCast_nonneg, Int.toNat_natCast, Nat.mul_one, eq_self, Nat.zero_add, Nat.add_zero, List.drop, and_self, ldV_f, Int.ofNat_lt, n_ldI, n_ldP, n_faP, n_ixS, n_ixA1, n_lenS, n_ldA, n_ldC, n_ldB, n_faA, ints_drop, flT_39_0, flT_39_1, ldT_37, ldT_3, elT_37, *]) | (refine condL_splitD ?_ ?_ <;> intro) | (refine condL_split ?_ ?_ <;> intro) | (refine ret_tmp ?_) | (refine acx_go rfl (fun _ _ _ h => h) ?_) | (with_reducible refine And.intro ?_ ?_)))
        · have hb : i < r.c.length := by assumption
          rw [wrap_ok (n := (i : Int) + 1) (by omega) (by omega)]
          exact ⟨i + 1, by omega, rfl, rfl⟩
        · rw [wrap_ok (n := (i : Int) + 1) (by omega) (by omega)]
          omega
        · have hn : ¬ r.b < 0 := by omega
          rw [decide_eq_false hn, Bool.false_and, if_pos rfl]
        · have hn : r.b < 0 := by omega
          rw [decide_eq_true hn, List.drop_eq_nil_of_le (by omega), List.any_nil, Bool.not_false, Bool.true_and, if_neg (by simp)]
  · (repeat' (first | (simp only [↓s_reg, ↓s_seq, ↓s_cond, ↓s_condT, ↓s_ret, ↓s_nil, ↓s_consN, ↓s_thenN, ↓s_thenR, ↓s_kret, ↓s_putS, ↓s_dOkS, ↓s_ev_t, ↓s_ev_c, ↓s_ev_f, ↓s_upd, ↓s_move, ↓s_assign, ↓s_bin, ↓s_extract, ↓s_callV, ↓s_callL, ↓s_bin_neq, vcExtract, List.map_cons, List.map_nil, List.getD_cons_zero, List.getD_cons_succ, List.getD_nil, ite_true, ite_false, Nat.reduceEqDiff, Nat.reduceLT, true_and, Nat.succ_ne_self, decide_false, Bool.not_false, reduceCtorEq, undefV, eq_self, List.getElem?_cons_zero, List.getElem?_cons_succ, undef, en_27, *]) | (refine ret_tmp ?_) | (exact SubH.refl _) | (refine PureF.use (hd) ?_)))
end Go.PV.Ytefpjfpelicedaa
end
section
/- Code with names for what stands behind the appends: made by cut4.py. -/
set_option maxRecDepth 100000
namespace Go.PV.Ytefpjfpelicedaa
open Go Go.Proofs
def d4_4 : ACode := (.seq (.reg [⟨some 173, (.move (.tmp 9)), none⟩,
  ⟨some 174, (.move (.tmp 17)), none⟩,
  ⟨some 175, (.call { callee := (.value (.func 13)), args := #[(.tmp 173), (.tmp 174)], argTypes := #[31, 28] }), none⟩,
  ⟨some 176, (.binOp .eql 25 (.tmp 175) (.const (.int .i64 0)) 25), none⟩,
  ⟨some 177, (.move (.tmp 176)), none⟩,
  ⟨some 178, (.call { callee := (.value (.func 8)), args := #[], argTypes := #[] }), some (177, true)⟩,
  ⟨some 179, (.pick (.tmp 177) (.tmp 178) (.const (.bool false))), none⟩,
  ⟨some 8, (.assign (.tmp 179)), none⟩])
 .ret)
def a4_3 : ACode := (.reg [⟨some 163, (.move (.tmp 17)), none⟩,
  ⟨some 164, (.move (.tmp 2)), none⟩,
  ⟨some 165, (.call { callee := (.builtin .len), args := #[(.tmp 164)], argTypes := #[35] }), none⟩,
  ⟨some 166, (.binOp .sub 3 (.tmp 165) (.const (.int .i64 1)) 3), none⟩,
  ⟨some 167, (.move (.tmp 17)), none⟩,
  ⟨some 168, (.call { callee := (.builtin .len), args := #[(.tmp 167)], argTypes := #[28] }), none⟩,
  ⟨some 169, (.binOp .sub 3 (.tmp 168) (.const (.int .i64 1)) 3), none⟩,
  ⟨some 170, (.build 52 #[(0, (.const (.int .i64 3))), (1, (.tmp 166)), (2, (.tmp 169)), (3, (.const (.int .i64 1))), (4, (.const (.int .i64 1)))]), none⟩,
  ⟨some 171, (.buildSlice 28 1 #[(0, (.tmp 170))]), none⟩,
  ⟨some 172, (.call { callee := (.builtin .append), args := #[(.tmp 163), (.tmp 171)], argTypes := #[28, 28] }), none⟩,
  ⟨some 17, (.assign (.tmp 172)), none⟩])
def d4_3 : ACode := (.seq a4_3
 d4_4)
def b4_1 : ACode := (.seq (.reg [⟨some 131, (.binOp .lss 3 (.tmp 130) (.tmp 129) 3), none⟩])
 (.seq (.cond (.tmp 131) .skip (.exit 0))
 (.seq (.block 1 (.seq (.reg [⟨some 132, (.indexAddr 28 (.tmp 128) (.tmp 130)), none⟩,
  ⟨some 133, (.load 52 (.tmp 132)), none⟩,
  ⟨some 19, (.alloc 52), none⟩,
  ⟨none, (.store 52 (.tmp 19) (.tmp 133)), none⟩])
 (.seq (.seq (.reg [⟨some 134, (.fieldAddr 52 (.tmp 19) 0), none⟩,
  ⟨some 135, (.load 3 (.tmp 134)), none⟩])
 (.block 2 (.seq (.reg [⟨some 137, (.binOp .eql 3 (.tmp 135) (.const (.int .i64 3)) 3), none⟩,
  ⟨some 136, (.assign (.tmp 137)), none⟩])
 (.cond (.tmp 136) (.reg [⟨some 138, (.fieldAddr 52 (.tmp 19) 1), none⟩,
  ⟨some 139, (.load 3 (.tmp 138)), none⟩,
  ⟨some 140, (.move (.tmp 2)), none⟩,
  ⟨some 141, (.call { callee := (.builtin .len), args := #[(.tmp 140)], argTypes := #[35] }), none⟩,
  ⟨some 142, (.binOp .add 3 (.tmp 139) (.tmp 141) 3), none⟩,
  ⟨some 143, (.fieldAddr 52 (.tmp 19) 2), none⟩,
  ⟨some 144, (.load 3 (.tmp 143)), none⟩,
  ⟨some 145, (.move (.tmp 2)), none⟩,
  ⟨some 146, (.call { callee := (.builtin .len), args := #[(.tmp 145)], argTypes := #[35] }), none⟩,
  ⟨some 147, (.binOp .add 3 (.tmp 144) (.tmp 146) 3), none⟩,
  ⟨some 148, (.fieldAddr 52 (.tmp 19) 1), none⟩,
  ⟨none, (.store 3 (.tmp 148) (.tmp 142)), none⟩,
  ⟨some 149, (.fieldAddr 52 (.tmp 19) 2), none⟩,
  ⟨none, (.store 3 (.tmp 149) (.tmp 147)), none⟩]) (.seq (.reg [⟨some 151, (.binOp .eql 3 (.tmp 135) (.const (.int .i64 4)) 3), none⟩,
  ⟨some 150, (.assign (.tmp 151)), none⟩])
 (.cond (.tmp 150) (.reg [⟨some 152, (.fieldAddr 52 (.tmp 19) 1), none⟩,
  ⟨some 153, (.load 3 (.tmp 152)), none⟩,
  ⟨some 154, (.move (.tmp 2)), none⟩,
  ⟨some 155, (.call { callee := (.builtin .len), args := #[(.tmp 154)], argTypes := #[35] }), none⟩,
  ⟨some 156, (.binOp .add 3 (.tmp 153) (.tmp 155) 3), none⟩,
  ⟨some 157, (.fieldAddr 52 (.tmp 19) 1), none⟩,
  ⟨none, (.store 3 (.tmp 157) (.tmp 156)), none⟩]) .skip))))))
 (.reg [⟨some 158, (.move (.tmp 17)), none⟩,
  ⟨some 159, (.load 52 (.tmp 19)), none⟩,
  ⟨some 160, (.buildSlice 28 1 #[(0, (.tmp 159))]), none⟩,
  ⟨some 161, (.call { callee := (.builtin .append), args := #[(.tmp 158), (.tmp 160)], argTypes := #[28, 28] }), none⟩,
  ⟨some 17, (.assign (.tmp 161)), none⟩]))))
 (.reg [⟨some 162, (.binOp .add 3 (.tmp 130) (.const (.int .i64 1)) 3), none⟩,
  ⟨some 130, (.move (.tmp 162)), none⟩]))))
def a4_2 : ACode := (.reg [⟨some 125, (.move (.tmp 2)), none⟩,
  ⟨some 126, (.call { callee := (.value (.func 21)), args := #[(.tmp 125)], argTypes := #[35] }), none⟩,
  ⟨some 17, (.assign (.tmp 126)), none⟩])
def d4_2 : ACode := (.seq a4_2
 (.seqL (.seq (.reg [⟨some 127, (.move (.tmp 3)), none⟩,
  ⟨some 128, (.call { callee := (.value (.func 21)), args := #[(.tmp 127)], argTypes := #[35] }), none⟩,
  ⟨some 129, (.call { callee := (.builtin .len), args := #[(.tmp 128)], argTypes := #[28] }), none⟩,
  ⟨some 130, (.move (.const (.int .i64 0))), none⟩])
 (.block 0 (.loop b4_1)))
 d4_3))
def a4_1 : ACode := (.seq (.reg [⟨some 51, (.move (.tmp 9)), none⟩,
  ⟨some 52, (.move (.tmp 2)), none⟩,
  ⟨some 53, (.call { callee := (.value (.func 21)), args := #[(.tmp 52)], argTypes := #[35] }), none⟩,
  ⟨some 54, (.call { callee := (.value (.func 13)), args := #[(.tmp 51), (.tmp 53)], argTypes := #[31, 28] }), none⟩,
  ⟨some 10, (.assign (.tmp 54)), none⟩])
 (.seq (.reg [⟨some 55, (.move (.tmp 10)), none⟩,
  ⟨some 56, (.binOp .neq 25 (.tmp 55) (.const (.int .i64 0)) 25), none⟩])
 (.cond (.tmp 56) (.seq (.reg [⟨some 58, (.move (.tmp 1)), none⟩,
  ⟨some 59, (.call { callee := (.value (.func 12)), args := #[(.tmp 58)], argTypes := #[22] }), none⟩,
  ⟨some 60, (.call { callee := (.value (.func 22)), args := #[(.tmp 59), (.const (.slice none 0 0))], argTypes := #[31, 28] }), none⟩,
  ⟨some 57, (.move (.tmp 60)), none⟩,
  ⟨some 61, (.extract (.tmp 57) 0), none⟩,
  ⟨some 62, (.extract (.tmp 57) 1), none⟩,
  ⟨some 11, (.assign (.tmp 61)), none⟩,
  ⟨some 12, (.assign (.tmp 62)), none⟩])
 (.seq (.reg [⟨some 63, (.move (.tmp 10)), none⟩,
  ⟨some 64, (.move (.tmp 12)), none⟩,
  ⟨some 65, (.binOp .eql 25 (.tmp 63) (.tmp 64) 25), none⟩,
  ⟨some 66, (.move (.tmp 65)), none⟩,
  ⟨some 67, (.call { callee := (.value (.func 8)), args := #[], argTypes := #[] }), some (66, true)⟩,
  ⟨some 68, (.pick (.tmp 66) (.tmp 67) (.const (.bool false))), none⟩,
  ⟨some 8, (.assign (.tmp 68)), none⟩])
 .ret)) .skip)))
def d4_1 : ACode := (.seq a4_1
 (.seq (.reg [⟨some 70, (.move (.tmp 9)), none⟩,
  ⟨some 71, (.move (.tmp 2)), none⟩,
  ⟨some 72, (.call { callee := (.value (.func 21)), args := #[(.tmp 71)], argTypes := #[35] }), none⟩,
  ⟨some 73, (.call { callee := (.value (.func 22)), args := #[(.tmp 70), (.tmp 72)], argTypes := #[31, 28] }), none⟩,
  ⟨some 69, (.move (.tmp 73)), none⟩,
  ⟨some 74, (.extract (.tmp 69) 0), none⟩,
  ⟨some 75, (.extract (.tmp 69) 1), none⟩,
  ⟨some 13, (.assign (.tmp 74)), none⟩,
  ⟨some 14, (.assign (.tmp 75)), none⟩])
 (.seq (.reg [⟨some 77, (.move (.tmp 9)), none⟩,
  ⟨some 78, (.move (.tmp 3)), none⟩,
  ⟨some 79, (.call { callee := (.value (.func 21)), args := #[(.tmp 78)], argTypes := #[35] }), none⟩,
  ⟨some 80, (.call { callee := (.value (.func 22)), args := #[(.tmp 77), (.tmp 79)], argTypes := #[31, 28] }), none⟩,
  ⟨some 76, (.move (.tmp 80)), none⟩,
  ⟨some 81, (.extract (.tmp 76) 0), none⟩,
  ⟨some 82, (.extract (.tmp 76) 1), none⟩,
  ⟨some 15, (.assign (.tmp 81)), none⟩,
  ⟨some 16, (.assign (.tmp 82)), none⟩])
 (.seq (.seq (.dreg (.tk ⟨some 83, (.move (.tmp 14)), none⟩
  (.tk ⟨some 84, (.binOp .neq 25 (.tmp 83) (.const (.int .i64 0)) 25), none⟩
  (.tk ⟨some 85, (.move (.tmp 84)), none⟩
  (.tk ⟨some 86, (.move (.tmp 16)), some (85, false)⟩
  (.tk ⟨some 87, (.binOp .neq 25 (.tmp 86) (.const (.int .i64 0)) 25), some (85, false)⟩
  (.tk ⟨some 88, (.pick (.tmp 85) (.const (.bool true)) (.tmp 87)), none⟩
  (.tk ⟨some 89, (.move (.tmp 88)), none⟩
  (.tk ⟨some 90, (.move (.tmp 9)), some (89, false)⟩
  (.tk ⟨some 91, (.move (.tmp 3)), some (89, false)⟩
  (.one ⟨some 92, (.call { callee := (.value (.func 21)), args := #[(.tmp 91)], argTypes := #[35] }), some (89, false)⟩
  (.one ⟨some 93, (.call { callee := (.value (.func 13)), args := #[(.tmp 90), (.tmp 92)], argTypes := #[31, 28] }), some (89, false)⟩
  (.tk ⟨some 94, (.binOp .neq 25 (.tmp 93) (.const (.int .i64 0)) 25), some (89, false)⟩
  (.tk ⟨some 95, (.pick (.tmp 89) (.const (.bool true)) (.tmp 94)), none⟩
  (.tk ⟨some 96, (.move (.tmp 95)), none⟩
  (.tk ⟨some 97, (.move (.tmp 13)), some (96, false)⟩
  (.tk ⟨some 98, (.call { callee := (.builtin .len), args := #[(.tmp 97)], argTypes := #[31] }), some (96, false)⟩
  (.tk ⟨some 99, (.binOp .eql 3 (.tmp 98) (.const (.int .i64 0)) 3), some (96, false)⟩
  (.tk ⟨some 100, (.pick (.tmp 96) (.const (.bool true)) (.tmp 99)), none⟩
  (.tk ⟨some 101, (.move (.tmp 100)), none⟩
  (.tk ⟨some 102, (.move (.tmp 15)), some (101, false)⟩
  (.tk ⟨some 103, (.call { callee := (.builtin .len), args := #[(.tmp 102)], argTypes := #[31] }), some (101, false)⟩
  (.tk ⟨some 104, (.binOp .eql 3 (.tmp 103) (.const (.int .i64 0)) 3), some (101, false)⟩
  (.tk ⟨some 105, (.pick (.tmp 101) (.const (.bool true)) (.tmp 104)), none⟩
  (.tk ⟨some 106, (.move (.tmp 105)), none⟩
  (.tk ⟨some 107, (.move (.tmp 13)), some (106, false)⟩
  (.tk ⟨some 108, (.move (.tmp 13)), some (106, false)⟩
  (.tk ⟨some 109, (.call { callee := (.builtin .len), args := #[(.tmp 108)], argTypes := #[31] }), some (106, false)⟩
  (.tk ⟨some 110, (.binOp .sub 3 (.tmp 109) (.const (.int .i64 1)) 3), some (106, false)⟩
  (.tk ⟨some 111, (.indexAddr 31 (.tmp 107) (.tmp 110)), some (106, false)⟩
  (.tk ⟨some 112, (.fieldAddr 50 (.tmp 111) 1), some (106, false)⟩
  (.tk ⟨some 113, (.load 3 (.tmp 112)), some (106, false)⟩
  (.tk ⟨some 114, (.move (.tmp 15)), some (106, false)⟩
  (.tk ⟨some 115, (.move (.tmp 15)), some (106, false)⟩
  (.tk ⟨some 116, (.call { callee := (.builtin .len), args := #[(.tmp 115)], argTypes := #[31] }), some (106, false)⟩
  (.tk ⟨some 117, (.binOp .sub 3 (.tmp 116) (.const (.int .i64 1)) 3), some (106, false)⟩
  (.tk ⟨some 118, (.indexAddr 31 (.tmp 114) (.tmp 117)), some (106, false)⟩
  (.tk ⟨some 119, (.fieldAddr 50 (.tmp 118) 1), some (106, false)⟩
  (.tk ⟨some 120, (.load 3 (.tmp 119)), some (106, false)⟩
  .fin)))))))))))))))))))))))))))))))))))))) [⟨some 121, (.binOp .add 3 (.tmp 113) (.tmp 120) 3), some (106, false)⟩,
  ⟨some 122, (.binOp .lss 3 (.tmp 121) (.const (.int .i64 (-1000000000000))) 3), some (106, false)⟩,
  ⟨some 123, (.pick (.tmp 106) (.const (.bool true)) (.tmp 122)), none⟩])
 (.cond (.tmp 123) (.seq (.reg [⟨some 124, (.call { callee := (.value (.func 8)), args := #[], argTypes := #[] }), none⟩,
  ⟨some 8, (.assign (.tmp 124)), none⟩])
 .ret) .skip))
 d4_2))))
def a4_00 : ACode := (.reg [⟨some 8, (.assign (.const (.bool false))), none⟩])
def a4_10 : ACode := (.seq (.reg [⟨some 20, (.move (.tmp 0)), none⟩,
  ⟨some 21, (.move (.tmp 2)), none⟩,
  ⟨some 22, (.call { callee := (.value (.func 7)), args := #[(.tmp 20), (.tmp 21), (.const (.int .i64 200))], argTypes := #[22, 35, 3] }), none⟩,
  ⟨some 23, (.unOp .not 4 (.tmp 22)), none⟩,
  ⟨some 24, (.move (.tmp 23)), none⟩,
  ⟨some 25, (.move (.tmp 1)), some (24, false)⟩,
  ⟨some 26, (.move (.tmp 3)), some (24, false)⟩,
  ⟨some 27, (.call { callee := (.value (.func 7)), args := #[(.tmp 25), (.tmp 26), (.const (.int .i64 200))], argTypes := #[22, 35, 3] }), some (24, false)⟩,
  ⟨some 28, (.unOp .not 4 (.tmp 27)), some (24, false)⟩,
  ⟨some 29, (.pick (.tmp 24) (.const (.bool true)) (.tmp 28)), none⟩,
  ⟨some 30, (.move (.tmp 29)), none⟩,
  ⟨some 31, (.move (.tmp 0)), some (30, false)⟩,
  ⟨some 32, (.call { callee := (.builtin .len), args := #[(.tmp 31)], argTypes := #[22] }), some (30, false)⟩,
  ⟨some 33, (.move (.tmp 1)), some (30, false)⟩,
  ⟨some 34, (.call { callee := (.builtin .len), args := #[(.tmp 33)], argTypes := #[22] }), some (30, false)⟩,
  ⟨some 35, (.binOp .add 3 (.tmp 32) (.tmp 34) 3), some (30, false)⟩,
  ⟨some 36, (.binOp .gtr 3 (.tmp 35) (.const (.int .i64 50)) 3), some (30, false)⟩,
  ⟨some 37, (.pick (.tmp 30) (.const (.bool true)) (.tmp 36)), none⟩])
 (.cond (.tmp 37) (.seq (.reg [⟨some 38, (.call { callee := (.value (.func 8)), args := #[], argTypes := #[] }), none⟩,
  ⟨some 8, (.assign (.tmp 38)), none⟩])
 .ret) .skip))
def a4_20 : ACode := (.seq (.reg [⟨some 39, (.move (.tmp 0)), none⟩,
  ⟨some 40, (.call { callee := (.value (.func 12)), args := #[(.tmp 39)], argTypes := #[22] }), none⟩,
  ⟨some 41, (.move (.tmp 2)), none⟩,
  ⟨some 42, (.call { callee := (.value (.func 21)), args := #[(.tmp 41)], argTypes := #[35] }), none⟩,
  ⟨some 43, (.call { callee := (.value (.func 13)), args := #[(.tmp 40), (.tmp 42)], argTypes := #[31, 28] }), none⟩,
  ⟨some 44, (.binOp .neq 25 (.tmp 43) (.const (.int .i64 0)) 25), none⟩])
 (.cond (.tmp 44) (.seq (.reg [⟨some 45, (.call { callee := (.value (.func 8)), args := #[], argTypes := #[] }), none⟩,
  ⟨some 8, (.assign (.tmp 45)), none⟩])
 .ret) .skip))
def a4_30 : ACode := (.reg [⟨some 46, (.move (.tmp 0)), none⟩,
  ⟨some 47, (.call { callee := (.value (.func 12)), args := #[(.tmp 46)], argTypes := #[22] }), none⟩,
  ⟨some 48, (.move (.tmp 1)), none⟩,
  ⟨some 49, (.call { callee := (.value (.func 12)), args := #[(.tmp 48)], argTypes := #[22] }), none⟩,
  ⟨some 50, (.call { callee := (.builtin .append), args := #[(.tmp 47), (.tmp 49)], argTypes := #[31, 31] }), none⟩,
  ⟨some 9, (.assign (.tmp 50)), none⟩])
def e4 : ACode := seqs [a4_00, a4_10, a4_20, a4_30] d4_1
end Go.PV.Ytefpjfpelicedaa
end
section
/- ArithMore: the end of its walk: lines behind lines. -/
set_option linter.unusedVariables false
set_option linter.unusedSimpArgs false
set_option maxRecDepth 20000
set_option maxHeartbeats 4000000
namespace Go.PV
theorem Weak.nil : Weak (.lit (.slice none 0 0)) (.slice false 0 []) := fun S w u hu => ⟨none, 0, hu, ⟨Nat.le_refl _, fun _ => rfl⟩, fun h => absurd h (Nat.lt_irrefl _)⟩
end Go.PV
namespace Go.PV.Ytefpjfpelicedaa
open Go Go.Proofs
end Go.PV.Ytefpjfpelicedaa
end
section
/- Regions whose guards hang on what was left out. -/
set_option linter.unusedVariables false
set_option linter.unusedSimpArgs false
namespace Go.PV
open Go
def guard2 (x : VV) (want : Bool) (cx : Cx) (d : Option Tmp) (op : Op) (k : AF → AH → Prop) (Q : APost) (A : AF) (H : AH) : Prop :=
  match x with
  | .lit (.bool t) => (if t = want then vcDo cx ⟨d, op, none⟩ k Q A H else (dOk cx.N d ∧ callOk cx.P op A ∧ k (A.put d undefV) H))
  | .lit (.tuple _) => dOk cx.N d ∧ callOk cx.P op A ∧ k (A.put d undefV) H
  | _ => False
def vcG2 (cx : Cx) (o : GOp) (k : AF → AH → Prop) (Q : APost) (A : AF) (H : AH) : Prop :=
  match o.g with
  | none => vcDo cx ⟨o.dst, o.op, none⟩ k Q A H
  | some (d, want) => guard2 (A.t d) want cx o.dst o.op k Q A H
def vcL2 (cx : Cx) : List GOp → APost → AF → AH → Prop
  | [], Q => Q .normal
  | o :: l, Q => vcG2 cx o (vcL2 cx l Q) Q
section
variable {cx : Cx} {Q : APost} {S : Nat → Prop} {H : AH} {w : World} {A : AF} {a : Act}
theorem not_wanted {ops : Array Oper} {o : Oper} (hf : RvF cx.N S w A a) {want : Bool} {d : Tmp} {vs : Array Value} (he : (gopOf ops o).g = some (d, want)) (hb : A.t d = .lit (.tuple vs)) : Region.wanted o (yielded ops a.tmps) = false := by
  have hr := hf.2.2 d
  rw [hb] at hr
  have hr' : a.tmps.getD d undef = .tuple vs := hr
  simp only [gopOf] at he
  cases hgd : o.guard with
  | none => simp [hgd] at he
  | some p =>
    obtain ⟨j, w'⟩ := p
    simp only [hgd, Option.bind_some, Option.map_eq_some_iff, Prod.mk.injEq] at he
    obtain ⟨d', hj, rfl, rfl⟩ := he
    simp only [Region.wanted, hgd, yielded, hj, Option.bind_some]
    rcases Nat.lt_or_ge d' a.tmps.size with hlt | hge
    · have ht : a.tmps[d']? = some (.tuple vs) := by
        rw [Array.getElem?_eq_getElem hlt]
        congr 1
        simpa [Array.getD, hlt] using hr'
      rw [ht]; cases w' <;> rfl
    · rw [Array.getElem?_eq_none hge]; cases w' <;> rfl
theorem vcG2_sound {ops : Array Oper} {o : Oper} {next : AF → AH → Prop} (hg : gOk ops o = true) (h : vcG2 cx (gopOf ops o) next Q A H) {S0 : Nat → Prop} {H0 : AH} {w0 : World} (k : Step S0 H0 w0 S H w) (hs : Sim S H w) (hf : RvF cx.N S w A a) (nx : Act → World → Prop)
    (h1 : ∀ S' H' A' a' w', Step S0 H0 w0 S' H' w' → Sim S' H' w' → RvF cx.N S' w' A' a' → next A' H' → nx a' w') :
    if Region.wanted o (yielded ops a.tmps) then o.wpIn (wideAt cx.P cx.ro) 0 cx.P a w nx (LQ cx Q S0 H0 w0) else (∀ f, o.about cx.P w a.eval = some f → (wideAt cx.P cx.ro).fn f) ∧ nx (a.put o.dst undef) w := by
  unfold vcG2 at h
  split at h
  · rename_i he
    refine vcG_sound hg ?_ k hs hf nx h1
    unfold vcG
    rw [he]
    exact h
  · rename_i d want he
    unfold guard2 at h
    split at h
    · rename_i b hb
      refine vcG_sound hg ?_ k hs hf nx h1
      unfold vcG
      rw [he]
      simp only [hb]
      exact h
    · rename_i vs hb
      have hw := not_wanted (ops := ops) (o := o) hf he hb
      rw [hw, if_neg (by simp)]
      refine ⟨callOk_about h.2.1 hf, h1 S H _ _ w k hs (RvF.put hf (x := undefV) (u := undef) ?_ rfl) h.2.2⟩
      intro d' hd'
      have h2 : dOk cx.N o.dst := h.1
      rw [hd'] at h2
      exact h2
    · exact h.elim
theorem vcL2_sound {ops : Array Oper} : ∀ (is : List Nat) (l : List Oper) (A : AF) (H : AH) (S : Nat → Prop) (w : World) (a : Act) (S0 : Nat → Prop) (H0 : AH) (w0 : World),
    (∀ j : Nat, l[j]? = (is[j]?).bind fun i : Nat => ops[i]?) → is.length = l.length → (∀ o ∈ l, gOk ops o = true) → vcL2 cx (l.map (gopOf ops)) Q A H → Step S0 H0 w0 S H w → Sim S H w → RvF cx.N S w A a →
    wpOpsIn (wideAt cx.P cx.ro) 0 cx.P ops (LQ cx Q S0 H0 w0) is a w
  | [], l, A, H, S, w, a, S0, H0, w0, hl, hlen, hg, h, k, hs, hf => by
    have : l = [] := List.eq_nil_of_length_eq_zero (by simpa using hlen.symm)
    subst this
    exact ⟨by simp, S, H, A, k, hs, hf, h⟩
  | i :: is, [], A, H, S, w, a, S0, H0, w0, hl, hlen, hg, h, k, hs, hf => by simp at hlen
  | i :: is, o :: l, A, H, S, w, a, S0, H0, w0, hl, hlen, hg, h, k, hs, hf => by
    have ho : ops[i]? = some o := by have := hl 0; simpa using this.symm
    simp only [wpOpsIn, ho]
    exact vcG2_sound (hg o (by simp)) h k hs hf _ fun S' H' A' a' w' g1 g2 g3 g4 =>
      vcL2_sound is l A' H' S' w' a' S0 H0 w0 (fun j => by have := hl (j + 1); simpa using this) (by simpa using hlen) (fun o' ho' => hg o' (by simp [ho'])) g4 g1 g2 g3
theorem ac_region2 {id : Nat} {ops : Array Oper} (hg : ops.all (gOk ops) = true) (h : vcL2 cx (ops.toList.map (gopOf ops)) Q A H) : AC cx (.region id ops false) Q A H := by
  intro S w a hs hf
  refine wpIn_region (vcL2_sound (List.range ops.size) ops.toList A H S w a S H w ?_ (by simp) ?_ h (.refl _ _ _) hs hf)
  · intro j
    by_cases hj : j < ops.size
    · rw [List.getElem?_range hj]
      simp
    · rw [List.getElem?_eq_none (by simpa using hj), List.getElem?_eq_none (by simpa using hj)]
      rfl
  · intro o ho
    exact Array.all_eq_true_iff_forall_mem.1 hg o (by simpa using ho)
end
theorem compileD_reg {P : Program} {ops : Array Oper} {l : List GOp} : compileD P ops ≠ .reg l := by
  unfold compileD
  dsimp only
  split
  · split
    · intro h; cases h
    · intro h; cases h
  · intro h; cases h
theorem acx_reg2 {cx : Cx} {l : List GOp} {Q : APost} {A : AF} {H : AH} (h : vcL2 cx l Q A H) : ACx cx (.reg l) Q A H := by
  intro c hc
  cases c with
  | region id ops draw =>
    simp only [compile] at hc
    split at hc
    · exact absurd hc compileD_reg
    · rename_i hd
      have hd' : draw = false := by simpa using hd
      subst hd'
      split at hc
      · rename_i hg
        injection hc with hc
        subst hc
        exact ac_region2 hg h
      · cases hc
  | seq x y => simp only [compile] at hc; split at hc <;> cases hc
  | _ => simp only [compile] at hc; cases hc
theorem acx_seqA {cx : Cx} {a b : ACode} {Q : APost} {K : AF → AH → Prop} {A : AF} {H : AH} (hK : ∀ A H, K A H → ACx cx b Q A H) (h : ACx cx a (thenA K Q) A H) : ACx cx (.seq a b) Q A H := by
  intro c hc
  cases c with
  | seq x y =>
    simp only [compile] at hc
    split at hc
    · cases hc
    · injection hc with h1 h2
      refine ac_seq ((h x h1).mono ?_)
      intro e A' H' hq
      cases e with
      | normal => exact hK A' H' hq y h2
      | _ => exact hq
  | region id ops draw =>
    simp only [compile] at hc
    split at hc
    · exact absurd hc compileD_seq
    · split at hc <;> cases hc
  | _ => simp only [compile] at hc; cases hc
section
variable {cx : Cx} {Q : APost} {k : AF → AH → Prop} {A : AF} {H : AH} {d : Option Tmp} {op : Op} {l : List GOp}
@[congr] theorem guard2_congr {x x' : VV} {want : Bool} (h : x = x') : guard2 x want cx d op k Q A H = guard2 x' want cx d op k Q A H := by rw [h]
theorem l2_nil : vcL2 cx [] Q A H = Q .normal A H := rfl
theorem l2_consN : vcL2 cx (⟨d, op, none⟩ :: l) Q A H = vcDo cx ⟨d, op, none⟩ (vcL2 cx l Q) Q A H := rfl
theorem l2_consG (g : Tmp) (want : Bool) : vcL2 cx (⟨d, op, some (g, want)⟩ :: l) Q A H = guard2 (A.t g) want cx d op (vcL2 cx l Q) Q A H := rfl
theorem g2_TT : guard2 (.lit (.bool true)) true cx d op k Q A H = vcDo cx ⟨d, op, none⟩ k Q A H := rfl
theorem g2_FT : guard2 (.lit (.bool false)) true cx d op k Q A H = (dOk cx.N d ∧ callOk cx.P op A ∧ k (A.put d undefV) H) := rfl
theorem g2_FF : guard2 (.lit (.bool false)) false cx d op k Q A H = vcDo cx ⟨d, op, none⟩ k Q A H := rfl
theorem g2_U (vs : Array Value) (want : Bool) : guard2 (.lit (.tuple vs)) want cx d op k Q A H = (dOk cx.N d ∧ callOk cx.P op A ∧ k (A.put d undefV) H) := rfl
theorem g2_splitTD {c : Prop} {dc : Decidable c} (h : c → vcDo cx ⟨d, op, none⟩ k Q A H) (g : ¬ c → dOk cx.N d ∧ callOk cx.P op A ∧ k (A.put d undefV) H) : guard2 (.lit (.bool (decide c))) true cx d op k Q A H := by
  by_cases hc : c
  · rw [decide_eq_true hc]; exact h hc
  · rw [decide_eq_false hc]; exact g hc
end
theorem seq_reg2 {cx : Cx} {l : List GOp} {C rest : ACode} {Q : APost} {A : AF} {H : AH} (hQ : noGoto Q) (h : vcL2 cx l (thenA (vc cx C (thenA (vc cx rest Q) Q)) (thenA (vc cx rest Q) Q)) A H) : ACx cx (.seq (.seq (.reg l) C) rest) Q A H :=
  acx_seqA (K := vc cx rest Q) (fun A H h => vc_acx hQ h) (acx_seqA (K := vc cx C (thenA (vc cx rest Q) Q)) (fun A H h => vc_acx (fun l A H h => hQ l A H h) h) (acx_reg2 h))
end Go.PV
end
section
/- Code with names for its parts: made by cut3.py. -/
set_option maxRecDepth 100000
namespace Go.PV.Ytefpjfpelicedaa
open Go Go.Proofs
def d3_1 : ACode := (.seq (.seq (.reg [⟨some 130, (.move (.tmp 9)), none⟩,
  ⟨some 131, (.unOp .not 4 (.tmp 130)), none⟩])
 (.cond (.tmp 131) (.seq (.reg [⟨some 132, (.move (.tmp 8)), none⟩,
  ⟨some 133, (.binOp .eql 25 (.tmp 132) (.const (.int .i64 0)) 25), none⟩,
  ⟨some 134, (.move (.tmp 133)), none⟩,
  ⟨some 135, (.move (.tmp 8)), some (134, false)⟩,
  ⟨some 136, (.binOp .eql 25 (.tmp 135) (.const (.int .i64 8)) 25), some (134, false)⟩,
  ⟨some 137, (.pick (.tmp 134) (.const (.bool true)) (.tmp 136)), none⟩,
  ⟨some 138, (.move (.tmp 137)), none⟩,
  ⟨some 139, (.move (.tmp 8)), some (138, false)⟩,
  ⟨some 140, (.call { callee := (.value (.func 18)), args := #[(.tmp 139)], argTypes := #[25] }), some (138, false)⟩,
  ⟨some 141, (.pick (.tmp 138) (.const (.bool true)) (.tmp 140)), none⟩,
  ⟨some 142, (.move (.tmp 141)), none⟩,
  ⟨some 143, (.call { callee := (.value (.func 8)), args := #[], argTypes := #[] }), some (142, true)⟩,
  ⟨some 144, (.pick (.tmp 142) (.tmp 143) (.const (.bool false))), none⟩,
  ⟨some 4, (.assign (.tmp 144)), none⟩])
 .ret) .skip))
 (.seq (.reg [⟨some 146, (.move (.tmp 0)), none⟩,
  ⟨some 147, (.call { callee := (.value (.func 19)), args := #[(.tmp 146), (.const (.int .i64 6))], argTypes := #[22, 3] }), none⟩,
  ⟨some 145, (.move (.tmp 147)), none⟩,
  ⟨some 148, (.extract (.tmp 145) 0), none⟩,
  ⟨some 149, (.extract (.tmp 145) 1), none⟩,
  ⟨some 150, (.extract (.tmp 145) 2), none⟩,
  ⟨some 12, (.assign (.tmp 148)), none⟩,
  ⟨some 13, (.assign (.tmp 149)), none⟩,
  ⟨some 14, (.assign (.tmp 150)), none⟩])
 (.seq (.reg [⟨some 151, (.move (.tmp 8)), none⟩,
  ⟨some 152, (.binOp .eql 25 (.tmp 151) (.const (.int .i64 0)) 25), none⟩,
  ⟨some 153, (.move (.tmp 152)), none⟩,
  ⟨some 154, (.move (.tmp 7)), some (153, true)⟩,
  ⟨some 155, (.move (.tmp 154)), some (153, true)⟩,
  ⟨some 156, (.move (.tmp 0)), some (155, false)⟩,
  ⟨some 157, (.call { callee := (.value (.func 20)), args := #[(.tmp 156)], argTypes := #[22] }), some (155, false)⟩,
  ⟨some 158, (.pick (.tmp 155) (.const (.bool true)) (.tmp 157)), some (153, true)⟩,
  ⟨some 159, (.pick (.tmp 153) (.tmp 158) (.const (.bool false))), none⟩,
  ⟨some 160, (.move (.tmp 159)), none⟩,
  ⟨some 161, (.move (.tmp 7)), some (160, true)⟩,
  ⟨some 162, (.move (.tmp 161)), some (160, true)⟩,
  ⟨some 163, (.move (.tmp 13)), some (162, true)⟩,
  ⟨some 164, (.pick (.tmp 162) (.tmp 163) (.const (.bool false))), some (160, true)⟩,
  ⟨some 165, (.unOp .not 4 (.tmp 164)), some (160, true)⟩,
  ⟨some 166, (.pick (.tmp 160) (.tmp 165) (.const (.bool false))), none⟩,
  ⟨some 167, (.move (.tmp 166)), none⟩,
  ⟨some 168, (.call { callee := (.value (.func 8)), args := #[], argTypes := #[] }), some (167, true)⟩,
  ⟨some 169, (.pick (.tmp 167) (.tmp 168) (.const (.bool false))), none⟩,
  ⟨some 4, (.assign (.tmp 169)), none⟩])
 .ret)))
def b3_1 : ACode := (.seq (.reg [⟨some 109, (.binOp .lss 3 (.tmp 108) (.tmp 107) 3), none⟩])
 (.seq (.cond (.tmp 109) .skip (.exit 0))
 (.seq (.block 1 (.seq (.reg [⟨some 110, (.indexAddr 22 (.tmp 106) (.tmp 108)), none⟩,
  ⟨some 111, (.load 39 (.tmp 110)), none⟩,
  ⟨some 11, (.alloc 39), none⟩,
  ⟨none, (.store 39 (.tmp 11) (.tmp 111)), none⟩])
 (.reg [⟨some 112, (.move (.tmp 9)), none⟩,
  ⟨some 113, (.move (.tmp 112)), none⟩,
  ⟨some 114, (.fieldAddr 39 (.tmp 11) 1), some (113, true)⟩,
  ⟨some 115, (.load 3 (.tmp 114)), some (113, true)⟩,
  ⟨some 116, (.binOp .geq 3 (.tmp 115) (.const (.int .i64 (-100))) 3), some (113, true)⟩,
  ⟨some 117, (.pick (.tmp 113) (.tmp 116) (.const (.bool false))), none⟩,
  ⟨some 118, (.move (.tmp 117)), none⟩,
  ⟨some 119, (.fieldAddr 39 (.tmp 11) 1), some (118, true)⟩,
  ⟨some 120, (.load 3 (.tmp 119)), some (118, true)⟩,
  ⟨some 121, (.binOp .leq 3 (.tmp 120) (.const (.int .i64 100)) 3), some (118, true)⟩,
  ⟨some 122, (.pick (.tmp 118) (.tmp 121) (.const (.bool false))), none⟩,
  ⟨some 123, (.move (.tmp 122)), none⟩,
  ⟨some 124, (.fieldAddr 39 (.tmp 11) 0), some (123, true)⟩,
  ⟨some 125, (.load 37 (.tmp 124)), some (123, true)⟩,
  ⟨some 126, (.call { callee := (.value (.func 16)), args := #[(.tmp 125), (.func 17)], argTypes := #[37, 41] }), some (123, true)⟩,
  ⟨some 127, (.unOp .not 4 (.tmp 126)), some (123, true)⟩,
  ⟨some 128, (.pick (.tmp 123) (.tmp 127) (.const (.bool false))), none⟩,
  ⟨some 9, (.assign (.tmp 128)), none⟩])))
 (.reg [⟨some 129, (.binOp .add 3 (.tmp 108) (.const (.int .i64 1)) 3), none⟩,
  ⟨some 108, (.move (.tmp 129)), none⟩]))))
def p3_0 : ACode := (.reg [⟨some 4, (.assign (.const (.bool false))), none⟩])
def p3_1 : ACode := (.seq (.reg [⟨some 15, (.move (.tmp 0)), none⟩,
  ⟨some 16, (.call { callee := (.value (.func 7)), args := #[(.tmp 15), (.const (.slice none 0 0)), (.const (.int .i64 0))], argTypes := #[22, 35, 3] }), none⟩,
  ⟨some 17, (.unOp .not 4 (.tmp 16)), none⟩])
 (.cond (.tmp 17) (.seq (.reg [⟨some 18, (.call { callee := (.value (.func 8)), args := #[], argTypes := #[] }), none⟩,
  ⟨some 4, (.assign (.tmp 18)), none⟩])
 .ret) .skip))
def p3_2 : ACode := (.reg [⟨some 19, (.move (.tmp 0)), none⟩,
  ⟨some 20, (.move (.tmp 1)), none⟩,
  ⟨some 21, (.call { callee := (.value (.func 9)), args := #[(.tmp 19), (.tmp 20)], argTypes := #[22, 3] }), none⟩,
  ⟨some 5, (.assign (.tmp 21)), none⟩])
def r3_3 : List GOp := [⟨some 22, (.move (.tmp 5)), none⟩,
  ⟨some 23, (.binOp .eql 25 (.tmp 22) (.const (.int .i64 0)) 25), none⟩,
  ⟨some 24, (.move (.tmp 23)), none⟩,
  ⟨some 25, (.move (.tmp 0)), some (24, true)⟩,
  ⟨some 26, (.call { callee := (.builtin .len), args := #[(.tmp 25)], argTypes := #[22] }), some (24, true)⟩,
  ⟨some 27, (.binOp .gtr 3 (.tmp 26) (.const (.int .i64 20)) 3), some (24, true)⟩,
  ⟨some 28, (.move (.tmp 27)), some (24, true)⟩,
  ⟨some 29, (.move (.tmp 0)), some (28, false)⟩,
  ⟨some 30, (.call { callee := (.value (.func 10)), args := #[(.tmp 29)], argTypes := #[22] }), some (28, false)⟩,
  ⟨some 31, (.binOp .gtr 3 (.tmp 30) (.const (.int .i64 6)) 3), some (28, false)⟩,
  ⟨some 32, (.pick (.tmp 28) (.const (.bool true)) (.tmp 31)), some (24, true)⟩,
  ⟨some 33, (.pick (.tmp 24) (.tmp 32) (.const (.bool false))), none⟩]
def k3_3 : ACode := (.cond (.tmp 33) (.seq (.reg [⟨some 34, (.call { callee := (.value (.func 8)), args := #[], argTypes := #[] }), none⟩,
  ⟨some 4, (.assign (.tmp 34)), none⟩])
 .ret) .skip)
def p3_4 : ACode := (.reg [⟨some 36, (.move (.tmp 0)), none⟩,
  ⟨some 37, (.call { callee := (.value (.func 12)), args := #[(.tmp 36)], argTypes := #[22] }), none⟩,
  ⟨some 38, (.move (.tmp 1)), none⟩,
  ⟨some 39, (.call { callee := (.value (.func 11)), args := #[(.tmp 37), (.tmp 38)], argTypes := #[31, 3] }), none⟩,
  ⟨some 35, (.move (.tmp 39)), none⟩,
  ⟨some 40, (.extract (.tmp 35) 0), none⟩,
  ⟨some 41, (.extract (.tmp 35) 1), none⟩,
  ⟨some 42, (.extract (.tmp 35) 2), none⟩,
  ⟨some 6, (.assign (.tmp 40)), none⟩,
  ⟨some 7, (.assign (.tmp 41)), none⟩,
  ⟨some 8, (.assign (.tmp 42)), none⟩])
def p3_5 : ACode := (.seq (.reg [⟨some 43, (.move (.tmp 5)), none⟩,
  ⟨some 44, (.binOp .neq 25 (.tmp 43) (.const (.int .i64 0)) 25), none⟩])
 (.cond (.tmp 44) (.seq (.reg [⟨some 45, (.move (.tmp 8)), none⟩,
  ⟨some 46, (.move (.tmp 5)), none⟩,
  ⟨some 47, (.binOp .eql 25 (.tmp 45) (.tmp 46) 25), none⟩,
  ⟨some 48, (.move (.tmp 47)), none⟩,
  ⟨some 49, (.move (.tmp 7)), some (48, true)⟩,
  ⟨some 50, (.unOp .not 4 (.tmp 49)), some (48, true)⟩,
  ⟨some 51, (.pick (.tmp 48) (.tmp 50) (.const (.bool false))), none⟩,
  ⟨some 52, (.move (.tmp 51)), none⟩,
  ⟨some 53, (.move (.tmp 6)), some (52, true)⟩,
  ⟨some 54, (.call { callee := (.builtin .len), args := #[(.tmp 53)], argTypes := #[28] }), some (52, true)⟩,
  ⟨some 55, (.binOp .eql 3 (.tmp 54) (.const (.int .i64 0)) 3), some (52, true)⟩,
  ⟨some 56, (.pick (.tmp 52) (.tmp 55) (.const (.bool false))), none⟩,
  ⟨some 57, (.move (.tmp 56)), none⟩,
  ⟨some 58, (.call { callee := (.value (.func 8)), args := #[], argTypes := #[] }), some (57, true)⟩,
  ⟨some 59, (.pick (.tmp 57) (.tmp 58) (.const (.bool false))), none⟩,
  ⟨some 4, (.assign (.tmp 59)), none⟩])
 .ret) .skip))
def r3_6 : List GOp := [⟨some 60, (.move (.tmp 8)), none⟩,
  ⟨some 61, (.binOp .eql 25 (.tmp 60) (.const (.int .i64 0)) 25), none⟩,
  ⟨some 62, (.move (.tmp 61)), none⟩,
  ⟨some 63, (.move (.tmp 7)), some (62, true)⟩,
  ⟨some 64, (.pick (.tmp 62) (.tmp 63) (.const (.bool false))), none⟩,
  ⟨some 65, (.move (.tmp 64)), none⟩,
  ⟨some 66, (.move (.tmp 6)), some (65, true)⟩,
  ⟨some 67, (.call { callee := (.builtin .len), args := #[(.tmp 66)], argTypes := #[28] }), some (65, true)⟩,
  ⟨some 68, (.move (.tmp 1)), some (65, true)⟩,
  ⟨some 69, (.binOp .gtr 3 (.tmp 67) (.tmp 68) 3), some (65, true)⟩,
  ⟨some 70, (.move (.tmp 69)), some (65, true)⟩,
  ⟨some 71, (.move (.tmp 0)), some (70, false)⟩,
  ⟨some 72, (.call { callee := (.value (.func 12)), args := #[(.tmp 71)], argTypes := #[22] }), some (70, false)⟩,
  ⟨some 73, (.move (.tmp 6)), some (70, false)⟩,
  ⟨some 74, (.call { callee := (.value (.func 13)), args := #[(.tmp 72), (.tmp 73)], argTypes := #[31, 28] }), some (70, false)⟩,
  ⟨some 75, (.binOp .neq 25 (.tmp 74) (.const (.int .i64 0)) 25), some (70, false)⟩,
  ⟨some 76, (.pick (.tmp 70) (.const (.bool true)) (.tmp 75)), some (65, true)⟩,
  ⟨some 77, (.move (.tmp 76)), some (65, true)⟩,
  ⟨some 78, (.move (.tmp 0)), some (77, false)⟩,
  ⟨some 79, (.move (.tmp 6)), some (77, false)⟩,
  ⟨some 80, (.call { callee := (.value (.func 15)), args := #[(.tmp 79)], argTypes := #[28] }), some (77, false)⟩,
  ⟨some 81, (.call { callee := (.value (.func 14)), args := #[(.tmp 78), (.tmp 80)], argTypes := #[22, 35] }), some (77, false)⟩,
  ⟨some 82, (.binOp .neq 25 (.tmp 81) (.const (.int .i64 0)) 25), some (77, false)⟩,
  ⟨some 83, (.pick (.tmp 77) (.const (.bool true)) (.tmp 82)), some (65, true)⟩,
  ⟨some 84, (.pick (.tmp 65) (.tmp 83) (.const (.bool false))), none⟩,
  ⟨some 85, (.move (.tmp 84)), none⟩,
  ⟨some 86, (.move (.tmp 7)), some (85, false)⟩,
  ⟨some 87, (.unOp .not 4 (.tmp 86)), some (85, false)⟩,
  ⟨some 88, (.move (.tmp 87)), some (85, false)⟩,
  ⟨some 89, (.move (.tmp 6)), some (88, true)⟩,
  ⟨some 90, (.call { callee := (.builtin .len), args := #[(.tmp 89)], argTypes := #[28] }), some (88, true)⟩,
  ⟨some 91, (.binOp .gtr 3 (.tmp 90) (.const (.int .i64 0)) 3), some (88, true)⟩,
  ⟨some 92, (.pick (.tmp 88) (.tmp 91) (.const (.bool false))), some (85, false)⟩,
  ⟨some 93, (.pick (.tmp 85) (.const (.bool true)) (.tmp 92)), none⟩]
def k3_6 : ACode := (.cond (.tmp 93) (.seq (.reg [⟨some 4, (.assign (.const (.bool false))), none⟩])
 .ret) .skip)
def p3_7 : ACode := (.reg [⟨some 94, (.move (.tmp 0)), none⟩,
  ⟨some 95, (.call { callee := (.builtin .len), args := #[(.tmp 94)], argTypes := #[22] }), none⟩,
  ⟨some 96, (.binOp .leq 3 (.tmp 95) (.const (.int .i64 5)) 3), none⟩,
  ⟨some 97, (.move (.tmp 96)), none⟩,
  ⟨some 98, (.move (.tmp 0)), some (97, true)⟩,
  ⟨some 99, (.call { callee := (.value (.func 10)), args := #[(.tmp 98)], argTypes := #[22] }), some (97, true)⟩,
  ⟨some 100, (.binOp .leq 3 (.tmp 99) (.const (.int .i64 3)) 3), some (97, true)⟩,
  ⟨some 101, (.pick (.tmp 97) (.tmp 100) (.const (.bool false))), none⟩,
  ⟨some 102, (.move (.tmp 101)), none⟩,
  ⟨some 103, (.move (.tmp 1)), some (102, true)⟩,
  ⟨some 104, (.binOp .eql 3 (.tmp 103) (.const (.int .i64 5000)) 3), some (102, true)⟩,
  ⟨some 105, (.pick (.tmp 102) (.tmp 104) (.const (.bool false))), none⟩,
  ⟨some 9, (.assign (.tmp 105)), none⟩])
def d3_2 : ACode := (.seqL (.seq (.reg [⟨some 106, (.move (.tmp 0)), none⟩,
  ⟨some 107, (.call { callee := (.builtin .len), args := #[(.tmp 106)], argTypes := #[22] }), none⟩,
  ⟨some 108, (.move (.const (.int .i64 0))), none⟩])
 (.block 0 (.loop b3_1)))
 d3_1)
def e3 : ACode := seqs [p3_0, p3_1, p3_2, (.seq (.reg r3_3) k3_3), p3_4, p3_5, (.seq (.reg r3_6) k3_6), p3_7] d3_2
theorem ce3 : c3 = e3 := rfl
end Go.PV.Ytefpjfpelicedaa
end
section
/- ArithRefutes: its walk. -/
set_option linter.unusedVariables false
set_option linter.unusedSimpArgs false
set_option maxRecDepth 20000
set_option maxHeartbeats 4000000
namespace Go.PV.Ytefpjfpelicedaa
open Go Go.Proofs
theorem limit18 (e : Int) (h : e = 7) : PureF Try.prog 18 [iV e] (boolV true) := by
  subst h
  intro H
  refine vcalls_intro fd18 (by simp) ?_
  unfold c18
  (repeat' (first | (simp only [↓s_reg, ↓s_seq, ↓s_ret, ↓s_nil, ↓s_consN, ↓s_consG, ↓s_guardTF, ↓s_thenN, ↓s_kret, ↓s_putS, ↓s_dOkS, ↓s_ev_t, ↓s_ev_c, ↓s_upd, ↓s_move, ↓s_assign, ↓s_isBool, ↓s_pickA, ↓s_pick, ↓s_bin, ↓s_bin_eql, boolV, List.getD_cons_zero, List.getD_cons_succ, List.getD_nil, ite_true, ite_false, Nat.reduceEqDiff, Nat.reduceLT, true_and, Nat.succ_ne_self, decide_true, reduceCtorEq, callOk, undefV, eq_self, and_self, undef, *]) | (refine ret_tmp ?_)))
def smP (r : Row) : Bool := (decide (-100 ≤ r.b) && decide (r.b ≤ 100)) && !(r.c.any fun c => decide (c < -10) || decide (10 < c))
theorem smP_small {r : Row} (h : smP r = true) : smallRow r := by
  simp only [smP, Bool.and_eq_true, decide_eq_true_eq, Bool.not_eq_true', List.any_eq_false, Bool.or_eq_true, not_or] at h
  exact ⟨h.1, fun c hc => by have := h.2 c hc; omega⟩
def Q3 (H : AH) : APost := retPost Try.prog [.tmp 4] fun e H' => e = .ret (boolV true) ∧ SubH H H'
/-- Behind the rows' sizes. -/
theorem end3 {H0 H : AH} {t : Nat → VV} {rows : List Row} {is sm : Bool} {e : Int} (h0 : t 0 = rowsV rows) (h7 : t 7 = boolV is) (h8 : t 8 = iV e) (h9 : t 9 = boolV sm) (hs : SubH H0 H) (h1 : (rows.length : Int) ≤ 9223372036854775806)
    (he : e = 0 ∨ e = 7 ∨ e = 8) (hsm : sm = true → (unkN rows ≤ 3 ∧ rows.length ≤ 5 ∧ ∀ r ∈ rows, smallRow r) ∧ e = 0 ∧ (is = true ∨ ratF rows = true) ∧ (is = true → (pointR rows 6).2.1 = false)) :
    vc ⟨Try.prog, 170, none⟩ d3_1 (Q3 H0) ⟨t, []⟩ H := by
  unfold d3_1 Q3
  cases sm with
  | false =>
    clear hsm
    rcases he with rfl | rfl | rfl
    · (repeat' (first | (simp only [↓s_reg, ↓s_seq, ↓s_cond, ↓s_condT, ↓s_ret, ↓s_nil, ↓s_consN, ↓s_consG, ↓s_guardTT, ↓s_guardTF, ↓s_thenN, ↓s_thenR, ↓s_kret, ↓s_putS, ↓s_dOkS, ↓s_ev_t, ↓s_ev_c, ↓s_ev_f, ↓s_upd, ↓s_move, ↓s_assign, ↓s_isBool, ↓s_pickA, ↓s_pick, ↓s_bin, ↓s_un, ↓s_callV, ↓s_callL, ↓s_un_not, ↓s_bin_eql, boolV, List.map_nil, ite_true, ite_false, Nat.reduceEqDiff, Nat.reduceLT, true_and, Nat.succ_ne_self, decide_true, Bool.not_false, callOk, undefV, eq_self, and_self, undef, en_8, en_18, *]) | (refine ret_tmp ?_) | (refine PureF.use (awake8) ?_)))
    · (repeat' (first | (simp only [↓s_reg, ↓s_seq, ↓s_cond, ↓s_condT, ↓s_ret, ↓s_nil, ↓s_consN, ↓s_consG, ↓s_guardTT, ↓s_guardFF, ↓s_thenN, ↓s_thenR, ↓s_kret, ↓s_putS, ↓s_dOkS, ↓s_ev_t, ↓s_ev_c, ↓s_ev_f, ↓s_upd, ↓s_move, ↓s_assign, ↓s_isBool, ↓s_pickA, ↓s_pick, ↓s_bin, ↓s_un, ↓s_callV, ↓s_callL, ↓s_un_not, ↓s_bin_eql, boolV, List.map_cons, List.map_nil, ite_true, ite_false, Nat.reduceEqDiff, Nat.reduceLT, true_and, Bool.false_eq_true, Nat.succ_ne_self, decide_false, Bool.not_false, eq_self, and_self, Int.reduceEq, en_8, en_18, *]) | (refine ret_tmp ?_) | (refine PureF.use (awake8) ?_) | (refine PureF.use (limit18 7 rfl) ?_)))
    · (repeat' (first | (simp only [↓s_reg, ↓s_seq, ↓s_cond, ↓s_condT, ↓s_ret, ↓s_nil, ↓s_consN, ↓s_consG, ↓s_guardTT, ↓s_guardTF, ↓s_guardFF, ↓s_thenN, ↓s_thenR, ↓s_kret, ↓s_putS, ↓s_dOkS, ↓s_ev_t, ↓s_ev_c, ↓s_ev_f, ↓s_upd, ↓s_move, ↓s_assign, ↓s_isBool, ↓s_pickA, ↓s_pick, ↓s_bin, ↓s_un, ↓s_callV, ↓s_callL, ↓s_un_not, ↓s_bin_eql, boolV, List.map_nil, ite_true, ite_false, Nat.reduceEqDiff, Nat.reduceLT, true_and, Bool.false_eq_true, Nat.succ_ne_self, decide_true, decide_false, Bool.not_false, callOk, undefV, eq_self, and_self, undef, Int.reduceEq, en_8, en_18, *]) | (refine ret_tmp ?_) | (refine PureF.use (awake8) ?_)))
  | true =>
    obtain ⟨⟨a1, a2, a3⟩, rfl, a5, a6⟩ := hsm rfl
    clear hsm he
    have hp := point19 rows 6 h1
    have hr := rational20 rows a1 a2 a3
    unfold pointRX at hp
    cases is with
    | true =>
      have hpf := a6 rfl
      generalize pointR rows 6 = p at *
      clear a3 a5 a6
      (repeat' (first | (simp only [↓s_skip, ↓s_reg, ↓s_seq, ↓s_cond, ↓s_condF, ↓s_ret, ↓s_nil, ↓s_consN, ↓s_consG, ↓s_guardTT, ↓s_guardTF, ↓s_thenN, ↓s_kret, ↓s_putS, ↓s_dOkS, ↓s_ev_t, ↓s_ev_c, ↓s_ev_f, ↓s_upd, ↓s_move, ↓s_assign, ↓s_isBool, ↓s_pickA, ↓s_pick, ↓s_bin, ↓s_un, ↓s_extract, ↓s_callV, ↓s_callL, ↓s_un_not, ↓s_bin_eql, vcExtract, boolV, List.map_cons, List.map_nil, ite_true, ite_false, Nat.reduceEqDiff, Nat.reduceLT, true_and, Nat.succ_ne_self, decide_true, Bool.not_true, Bool.not_false, reduceCtorEq, callOk, undefV, eq_self, and_self, List.getElem?_cons_zero, List.getElem?_cons_succ, undef, en_8, en_19, en_20, *]) | (refine ret_tmp ?_) | (refine PureF.use (awake8) ?_) | (refine PureF.use (hp) ?_)))
    | false =>
      have hrt : ratF rows = true := by simpa using a5
      rw [hrt] at hr
      generalize pointR rows 6 = p at *
      clear a3 a5 a6 hrt
      (repeat' (first | (simp only [↓s_skip, ↓s_reg, ↓s_seq, ↓s_cond, ↓s_condF, ↓s_ret, ↓s_nil, ↓s_consN, ↓s_consG, ↓s_guardTT, ↓s_guardFT, ↓s_guardFF, ↓s_thenN, ↓s_kret, ↓s_putS, ↓s_dOkS, ↓s_ev_t, ↓s_ev_c, ↓s_ev_f, ↓s_upd, ↓s_move, ↓s_assign, ↓s_isBool, ↓s_pickA, ↓s_pick, ↓s_bin, ↓s_un, ↓s_extract, ↓s_callV, ↓s_callL, ↓s_un_not, ↓s_bin_eql, vcExtract, boolV, List.map_cons, List.map_nil, ite_true, ite_false, Nat.reduceEqDiff, Nat.reduceLT, true_and, Bool.false_eq_true, Nat.succ_ne_self, decide_true, Bool.not_true, Bool.not_false, reduceCtorEq, callOk, undefV, eq_self, and_self, List.getElem?_cons_zero, List.getElem?_cons_succ, undef, en_8, en_19, en_20, *]) | (refine ret_tmp ?_) | (refine PureF.use (awake8) ?_) | (refine PureF.use (hp) ?_) | (refine PureF.use (hr) ?_)))
/-- The rows' sizes. -/
theorem loop3 {H0 H : AH} {t : Nat → VV} {rows : List Row} {is s0 g : Bool} {e : Int} (h0 : t 0 = rowsV rows) (h7 : t 7 = boolV is) (h8 : t 8 = iV e) (h9 : t 9 = boolV s0) (h106 : t 106 = rowsV rows) (h107 : t 107 = iV rows.length) (h108 : t 108 = iV 0) (hs : SubH H0 H)
    (h1 : (rows.length : Int) ≤ 9223372036854775806) (hrl : ∀ r ∈ rows, (r.c.length : Int) ≤ 20)
    (he : e = 0 ∨ e = 7 ∨ e = 8) (hg : (s0 && rows.all smP) = g) (hsm : g = true → (unkN rows ≤ 3 ∧ rows.length ≤ 5 ∧ ∀ r ∈ rows, smallRow r) ∧ e = 0 ∧ (is = true ∨ ratF rows = true) ∧ (is = true → (pointR rows 6).2.1 = false)) :
    ACx ⟨Try.prog, 170, none⟩ (.loop b3_1) (inBlockA 0 (thenA (ACx ⟨Try.prog, 170, none⟩ d3_1 (Q3 H0)) (Q3 H0))) ⟨t, []⟩ H := by
  refine acx_loop (fun _ _ _ h => h) (fun A H' => SubH H0 H' ∧ A.d = [] ∧ A.t 0 = rowsV rows ∧ A.t 7 = boolV is ∧ A.t 8 = iV e ∧ A.t 106 = rowsV rows ∧ A.t 107 = iV rows.length ∧ ∃ (i : Nat) (b : Bool), i ≤ rows.length ∧ A.t 108 = iV i ∧ A.t 9 = boolV b ∧ (b && (rows.drop i).all smP) = g)
    (fun A _ => match A.t 108 with | .lit (.int _ i) => ((rows.length : Int) - i).toNat | _ => 0) ?_ ?_
  · exact ⟨hs, rfl, h0, h7, h8, h106, h107, 0, s0, by omega, h108, h9, hg⟩
  · clear h0 h7 h8 h9 h106 h107 h108 hs hg
    rintro ⟨t, d⟩ H' ⟨hs, rfl, h0, h7, h8, h106, h107, i, b, hi, h108, h9, hgo⟩
    dsimp only at h0 h7 h8 h106 h107 h108 h9
    have hHn : ∀ r, H' r = none → H0 r = none := fun r h => hs.none h
    unfold b3_1
    by_cases hlt : i < rows.length
    · have hlen : (rows[i].c.length : Int) ≤ 9223372036854775806 := by have := hrl _ (List.getElem_mem hlt); omega
      have hd : (rows.drop i).all smP = (smP rows[i] && (rows.drop (i + 1)).all smP) := by rw [List.drop_eq_getElem_cons hlt, List.all_cons]
      have fin : ((b && smP rows[i]) && (rows.drop (i + 1)).all smP) = g := by rw [← hgo, hd, Bool.and_assoc]
      clear hgo hd hsm
      generalize hq : smP rows[i] = q at fin
      cases b with
      | false =>
        rw [Bool.false_and] at fin
        clear hq
        (repeat' (first | (simp only [↓s_skip, ↓s_reg, ↓s_seq, ↓s_cond, ↓s_condT, ↓s_block, ↓s_nil, ↓s_consN, ↓s_consG, ↓s_guardFT, ↓s_thenN, ↓s_inN, ↓s_kret, ↓s_putS, ↓s_putN, ↓s_dOkS, ↓s_dOkN, ↓s_ev_t, ↓s_ev_c, ↓s_ev_f, ↓s_upd, ↓s_move, ↓s_assign, ↓s_isBool, ↓s_pickA, ↓s_pick, ↓s_load, ↓s_store, ↓s_bin, ↓s_alloc, ↓s_indexAddr, ↓s_bin_lss, ↓s_bin_add, ptrV, boolV, List.map_cons, List.map_nil, List.length_cons, List.length_nil, ite_true, ite_false, Nat.reduceEqDiff, Nat.reduceLT, Nat.reduceAdd, true_and, Bool.false_eq_true, Nat.succ_ne_self, decide_true, reduceCtorEq, Int.natCast_nonneg, Int.toNat_natCast, callOk, undefV, AH.get, AH.set_set, setAt, List.all_cons, List.all_nil, Bool.and_self, eq_self, Nat.zero_add, and_self, ldV_t2, Int.ofNat_lt, on_int, cl_agg, on_slice, List.set_cons_zero, List.set_cons_succ, ↓n_alloc, n_allocS, Nat.le_refl, n_ldI, n_ixS, n_ixA1, n_ldC, n_ldB, n_stP, n_stA, undef, Int.reduceNeg, rows_drop, ldT_39, szT_39, zeroT_39, elT_22, en_16, *]) | (refine allNew_intro fun zr zh => ?_; have zg := zh; (try simp only [AH.set_none] at zg)) | (refine SubH.of_set ?_ ?_) | (with_reducible refine And.intro ?_ ?_)))
        all_goals rw [wrap_ok (n := (i : Int) + 1) (by omega) (by omega)]
        · exact ⟨i + 1, false, by omega, rfl, rfl, fin⟩
        · omega
      | true =>
        rw [Bool.true_and] at fin
        unfold smP at hq
        (repeat' (first | (refine contains16 (p := fun c => decide (c < -10) || decide (10 < c)) hlen (fun x _ => FnAt.lit en_17 (refutes17 x)) ?_) | (simp only [↓s_skip, ↓s_reg, ↓s_seq, ↓s_cond, ↓s_condT, ↓s_block, ↓s_nil, ↓s_consN, ↓s_consG, ↓s_guardTT, ↓s_guardFT, ↓s_thenN, ↓s_inN, ↓s_kret, ↓s_putS, ↓s_putN, ↓s_dOkS, ↓s_dOkN, ↓s_ev_t, ↓s_ev_c, ↓s_ev_f, ↓s_upd, ↓s_move, ↓s_assign, ↓s_isBool, ↓s_pickA, ↓s_pick, ↓s_load, ↓s_store, ↓s_bin, ↓s_un, ↓s_alloc, ↓s_fieldAddr, ↓s_indexAddr, ↓s_callV, ↓s_callL, ↓s_un_not, ↓s_bin_lss, ↓s_bin_leq, ↓s_bin_geq, ↓s_bin_add, ptrV, boolV, List.map_cons, List.map_nil, List.length_cons, List.length_nil, ite_true, ite_false, Nat.reduceEqDiff, Nat.reduceLT, Nat.reduceAdd, ne_eq, not_false_eq_true, true_and, Bool.false_eq_true, Nat.succ_ne_self, decide_true, decide_false, reduceCtorEq, Int.natCast_nonneg, Int.toNat_natCast, callOk, undefV, AH.get, AH.set_set, setAt, List.all_cons, List.all_nil, Bool.and_self, eq_self, Nat.zero_add, Nat.add_zero, List.drop, and_self, ldV_f, ldV_t2, Int.ofNat_lt, on_int, cl_agg, on_slice, List.set_cons_zero, List.set_cons_succ, ↓n_alloc, n_allocS, Nat.le_refl, n_ldI, n_ldP, n_faP, n_ixS, n_ixA1, n_ldA, n_ldC, n_ldB, n_faA, n_stP, n_stA, undef, Int.reduceNeg, rows_drop, flT_39_1, flT_39_0, ldT_39, ldT_3, ldT_37, szT_39, zeroT_39, elT_22, en_16, *]) | (refine guardL_splitTD ?_ ?_ <;> intro) | (refine allNew_intro fun zr zh => ?_; have zg := zh; (try simp only [AH.set_none] at zg)) | (refine SubH.of_set ?_ ?_) | (with_reducible refine And.intro ?_ ?_)))
        all_goals rw [wrap_ok (n := (i : Int) + 1) (by omega) (by omega)]
        · have ha1 : -100 ≤ rows[i].b := by assumption
          have ha2 : rows[i].b ≤ 100 := by assumption
          rw [decide_eq_true ha1, decide_eq_true ha2, Bool.true_and, Bool.true_and] at hq
          exact ⟨i + 1, q, by omega, rfl, by rw [hq], fin⟩
        · omega
        · have ha2 : ¬ rows[i].b ≤ 100 := by assumption
          rw [decide_eq_false ha2, Bool.and_false, Bool.false_and] at hq
          exact ⟨i + 1, q, by omega, rfl, by rw [hq], fin⟩
        · omega
        · have ha1 : ¬ -100 ≤ rows[i].b := by assumption
          rw [decide_eq_false ha1, Bool.false_and, Bool.false_and] at hq
          exact ⟨i + 1, q, by omega, rfl, by rw [hq], fin⟩
        · omega
    · have hil : i = rows.length := by omega
      subst hil
      rw [List.drop_eq_nil_of_le (Nat.le_refl _), List.all_nil, Bool.and_true] at hgo
      subst hgo
      (repeat' (first | (simp only [↓s_reg, ↓s_seq, ↓s_cond, ↓s_condF, ↓s_exit, ↓s_nil, ↓s_consN, ↓s_thenN, ↓s_thenE, ↓s_inE, ↓s_kret, ↓s_putS, ↓s_dOkS, ↓s_ev_t, ↓s_upd, ↓s_bin, ↓s_bin_lss, boolV, ite_true, Nat.reduceLT, true_and, decide_false, eq_self, Int.ofNat_lt, Int.reduceNeg, *]) | (refine acx_go rfl (fun _ _ _ h => h) ?_)))
      exact end3 (by simp only [s_upd, Nat.reduceEqDiff, if_false, *] <;> rfl) (by simp only [s_upd, Nat.reduceEqDiff, if_false, *] <;> rfl) (by simp only [s_upd, Nat.reduceEqDiff, if_false, *] <;> rfl) (by simp only [s_upd, Nat.reduceEqDiff, if_false, *] <;> rfl) hs h1 he hsm
end Go.PV.Ytefpjfpelicedaa
end
section
/- ArithRefutes: its walk, from the start. -/
set_option linter.unusedVariables false
set_option linter.unusedSimpArgs false
set_option maxRecDepth 20000
set_option maxHeartbeats 4000000
namespace Go.PV.Ytefpjfpelicedaa
open Go Go.Proofs
theorem asked_bad {rows : List Row} {most : Int} (h : askedF rows most ≠ 0) : refuteF rows most = ([], false, askedF rows most) := by
  unfold askedF at h ⊢
  unfold refuteF
  split
  · rename_i hr
    rw [if_pos hr] at h
    split
    · rfl
    · rename_i hm; rw [if_neg hm] at h; exact absurd rfl h
  · rfl
theorem asked_ok {rows : List Row} {most : Int} (h : askedF rows most = 0) : rightF rows = 0 ∧ ¬ (most < 0 ∨ 5000 < most) := by
  unfold askedF at h
  split at h
  · rename_i hr
    refine ⟨hr, fun hm => ?_⟩
    rw [if_pos hm] at h; omega
  · rename_i hr; exact absurd h hr
theorem refute_is {rows : List Row} {most : Int} (h : (refuteF rows most).2.1 = true) : (refuteF rows most).2.2 = 0 := by
  revert h
  unfold refuteF
  split
  · split
    · simp
    · split <;> simp
  · simp
theorem refutes3 (rows : List Row) (most : Int) (h1 : (rows.length : Int) ≤ 9223372036854775806) : PureF Try.prog 3 [rowsV rows, iV most] (boolV true) := by
  refine PureF.forget fun H => ?_
  refine vcalls_introA fd3 (by simp) ?_
  rw [ce3]
  show ACx _ e3 (Q3 H) _ _
  have hQ : noGoto (Q3 H) := fun _ _ _ h => h
  have hfew := (few7 rows [] 0 h1).weak (ys := [rowsV rows, .lit (.slice none 0 0), iV 0]) ⟨.refl _, .nil, .refl _, trivial⟩
  have hask := asked9 rows most h1
  have hunk := unknowns10 rows h1
  have hu := unkN_eq rows
  cases hf : fewF rows [] 0 with
  | false =>
    rw [hf] at hfew
    clear hf
    refine vc_acx hQ ?_
    unfold e3 Q3
    (repeat' (first | (simp only [↓s_reg, ↓s_seq, ↓s_cond, ↓s_condT, ↓s_ret, ↓s_nil, ↓s_consN, ↓s_thenN, ↓s_thenR, ↓s_kret, ↓s_putS, ↓s_dOkS, ↓s_ev_t, ↓s_ev_c, ↓s_ev_f, ↓s_upd, ↓s_move, ↓s_assign, ↓s_un, ↓s_callV, ↓s_callL, ↓s_un_not, boolV, List.map_cons, List.map_nil, List.getD_cons_zero, List.getD_cons_succ, List.getD_nil, ite_true, ite_false, Nat.reduceEqDiff, Nat.reduceLT, true_and, Nat.succ_ne_self, Bool.not_false, reduceCtorEq, undefV, eq_self, undef, seqs, p3_0, p3_1, p3_2, k3_3, p3_4, p3_5, k3_6, p3_7, d3_2, en_7, en_8, *]) | (refine ret_tmp ?_) | (exact SubH.refl _) | (refine PureF.use (hfew) ?_) | (refine PureF.use (awake8) ?_)))
  | true =>
    obtain ⟨f1, f2, f3⟩ := few_len hf
    rw [hf] at hfew
    clear hf f2
    have f1' : (rows.length : Int) ≤ 1000000 := by omega
    have f3' : ∀ r ∈ rows, (r.c.length : Int) ≤ 1000000 := fun r hr => by have := f3 r hr; omega
    have hrows := rows12P rows f1' f3'
    have href := refute11 rows most h1
    unfold refuteX at href
    by_cases ha : askedF rows most = 0
    · obtain ⟨hr, hm⟩ := asked_ok ha
      rw [ha] at hask
      obtain ⟨hcode, hnil⟩ := refute_codes hr hm
      have hcert := @refute_cert rows most (refuteF rows most).1
      have his := @refute_is rows most
      have hsmall := @refute_small rows hr
      by_cases hl : 20 < (rows.length : Int)
      · clear hcode hnil hcert his hsmall href
        refine vc_acx hQ ?_
        unfold e3 Q3
        (repeat' (first | (simp only [↓s_skip, ↓s_reg, ↓s_seq, ↓s_cond, ↓s_condT, ↓s_condF, ↓s_ret, ↓s_nil, ↓s_consN, ↓s_consG, ↓s_guardTT, ↓s_guardTF, ↓s_thenN, ↓s_thenR, ↓s_kret, ↓s_putS, ↓s_dOkS, ↓s_ev_t, ↓s_ev_c, ↓s_ev_f, ↓s_upd, ↓s_move, ↓s_assign, ↓s_isBool, ↓s_pickA, ↓s_pick, ↓s_bin, ↓s_un, ↓s_callB, ↓s_callV, ↓s_callL, ↓s_len, ↓s_un_not, ↓s_bin_gtr, ↓s_bin_eql, intV, boolV, List.map_cons, List.map_nil, List.getD_cons_zero, List.getD_cons_succ, List.getD_nil, ite_true, ite_false, Nat.reduceEqDiff, Nat.reduceLT, ne_eq, not_false_eq_true, true_and, Nat.succ_ne_self, decide_true, Bool.not_true, reduceCtorEq, callOk, undefV, eq_self, n_lenS, undef, seqs, p3_0, p3_1, p3_2, k3_3, p3_4, p3_5, k3_6, p3_7, d3_2, r3_3, elT_22, en_7, en_8, en_9, en_10, *]) | (refine ret_tmp ?_) | (exact SubH.refl _) | (refine PureF.use (hfew) ?_) | (refine PureF.use (hask) ?_) | (refine PureF.use (awake8) ?_)))
      by_cases hn : 6 < (unkF rows : Int)
      · have hn' : 6 < (unkN rows : Int) := by omega
        clear hn
        clear hcode hnil hcert his hsmall href
        refine vc_acx hQ ?_
        unfold e3 Q3
        (repeat' (first | (simp only [↓s_skip, ↓s_reg, ↓s_seq, ↓s_cond, ↓s_condT, ↓s_condF, ↓s_ret, ↓s_nil, ↓s_consN, ↓s_consG, ↓s_guardTT, ↓s_guardFF, ↓s_thenN, ↓s_thenR, ↓s_kret, ↓s_putS, ↓s_dOkS, ↓s_ev_t, ↓s_ev_c, ↓s_ev_f, ↓s_upd, ↓s_move, ↓s_assign, ↓s_isBool, ↓s_pickA, ↓s_pick, ↓s_bin, ↓s_un, ↓s_callB, ↓s_callV, ↓s_callL, ↓s_len, ↓s_un_not, ↓s_bin_gtr, ↓s_bin_eql, intV, boolV, List.map_cons, List.map_nil, List.getD_cons_zero, List.getD_cons_succ, List.getD_nil, ite_true, ite_false, Nat.reduceEqDiff, Nat.reduceLT, ne_eq, not_false_eq_true, true_and, Bool.false_eq_true, Nat.succ_ne_self, decide_true, decide_false, Bool.not_true, reduceCtorEq, undefV, eq_self, n_lenS, undef, seqs, p3_0, p3_1, p3_2, k3_3, p3_4, p3_5, k3_6, p3_7, d3_2, r3_3, elT_22, en_7, en_8, en_9, en_10, *]) | (refine ret_tmp ?_) | (exact SubH.refl _) | (refine PureF.use (hfew) ?_) | (refine PureF.use (hask) ?_) | (refine PureF.use (hunk) ?_) | (refine PureF.use (awake8) ?_)))
      have key : ∀ s0 : Bool, (s0 = true → (rows.length : Int) ≤ 5 ∧ unkF rows ≤ 3 ∧ most = 5000) → ((s0 && rows.all smP) = true → (unkN rows ≤ 3 ∧ rows.length ≤ 5 ∧ ∀ r ∈ rows, smallRow r) ∧ (refuteF rows most).2.2 = 0 ∧ ((refuteF rows most).2.1 = true ∨ ratF rows = true) ∧ ((refuteF rows most).2.1 = true → (pointR rows 6).2.1 = false)) := fun s0 hs hg => by
        rw [Bool.and_eq_true] at hg
        obtain ⟨k1, k2, k3⟩ := hs hg.1
        have hsm : ∀ r ∈ rows, smallRow r := fun r h => smP_small (List.all_eq_true.1 hg.2 r h)
        have k4 : unkN rows ≤ 3 := by omega
        have k5 : rows.length ≤ 5 := by omega
        subst k3
        exact ⟨⟨k4, k5, hsm⟩, hsmall k4 k5 hsm⟩
      generalize refuteF rows most = p at *
      obtain ⟨l, is, e⟩ := p
      dsimp only at href hcode hnil hcert his key
      clear hsmall
      cases is with
      | true =>
        obtain rfl := his rfl
        obtain ⟨c1, c2⟩ := hcert rfl
        have ll : (l.length : Int) ≤ 1000000 := by omega
        have ll' : (l.length : Int) ≤ 9223372036854775806 := by omega
        have hc13 := check13 rows l h1 ll'
        have hc14 := check14 rows l h1 ll'
        rw [c1] at hc13 hc14
        have h15 := lines15P l ll
        have hlm : ¬ most < (l.length : Int) := by omega
        clear hcert his hnil c1 c2 hcode
        refine vc_acx hQ ?_
        unfold e3
        (repeat' (first | (refine g2_splitTD (fun _ => ?_) (fun _ => ?_)) | (simp only [↓s_skip, ↓s_reg, ↓s_seq, ↓s_seqL, ↓s_cond, ↓s_condF, ↓s_block, ↓s_ret, ↓s_loop, ↓s_nil, ↓s_consN, ↓s_consG, ↓s_guardTT, ↓s_guardFT, ↓s_guardFF, ↓s_thenN, ↓s_thenR, ↓s_kret, ↓s_putS, ↓s_dOkS, ↓s_ev_t, ↓s_ev_c, ↓s_ev_f, ↓s_upd, ↓s_move, ↓s_assign, ↓s_isBool, ↓s_pickA, ↓s_pick, ↓s_bin, ↓s_un, ↓s_extract, ↓s_callB, ↓s_callV, ↓s_callL, ↓s_len, ↓s_un_not, ↓s_bin_leq, ↓s_bin_gtr, ↓s_bin_eql, ↓s_bin_neq, vcExtract, intV, boolV, List.map_cons, List.map_nil, List.getD_cons_zero, List.getD_cons_succ, List.getD_nil, ite_true, ite_false, Nat.reduceEqDiff, Nat.reduceLT, ne_eq, not_false_eq_true, true_and, Bool.false_eq_true, Nat.succ_ne_self, decide_true, decide_false, Bool.not_true, reduceCtorEq, callOk, undefV, eq_self, List.getElem?_cons_zero, List.getElem?_cons_succ, n_lenS, undef, seqs, p3_0, p3_1, p3_2, k3_3, p3_4, p3_5, k3_6, p3_7, d3_2, r3_3, r3_6, elT_22, elT_28, en_7, en_8, en_9, en_10, en_12, en_11, en_13, en_15, en_14, *]) | (refine condL_splitD ?_ ?_ <;> intro) | (refine ret_tmp ?_) | (exact SubH.refl _) | (refine PureF.use (hfew) ?_) | (refine PureF.use (hask) ?_) | (refine PureF.use (hunk) ?_) | (refine PureF.use (hrows) ?_) | (refine PureF.use (href) ?_) | (refine PureF.use (hc13) ?_) | (refine PureF.use (hc14) ?_) | (refine PureF.use (h15) ?_) | (refine PureF.use (awake8) ?_)))
        all_goals first
          | exact loop3 (s0 := decide (most = 5000)) (by simp only [s_upd, Nat.reduceEqDiff, if_false, *] <;> rfl) (by simp only [s_upd, Nat.reduceEqDiff, if_true, if_false, *] <;> rfl) (by simp only [s_upd, Nat.reduceEqDiff, if_true, if_false, *] <;> rfl) (by simp only [s_upd, Nat.reduceEqDiff, if_true, if_false, *] <;> rfl) (by simp only [s_upd, Nat.reduceEqDiff, if_true, if_false, *] <;> rfl) (by simp only [s_upd, Nat.reduceEqDiff, if_true, if_false, *] <;> rfl) (by simp only [s_upd, Nat.reduceEqDiff, if_true, if_false, *] <;> rfl) (SubH.refl _) h1 f3 (.inl rfl) rfl (fun hg => key _ (fun h => ⟨by omega, by omega, of_decide_eq_true h⟩) hg)
          | exact loop3 (s0 := false) (by simp only [s_upd, Nat.reduceEqDiff, if_false, *] <;> rfl) (by simp only [s_upd, Nat.reduceEqDiff, if_true, if_false, *] <;> rfl) (by simp only [s_upd, Nat.reduceEqDiff, if_true, if_false, *] <;> rfl) (by simp only [s_upd, Nat.reduceEqDiff, if_true, if_false, *] <;> rfl) (by simp only [s_upd, Nat.reduceEqDiff, if_true, if_false, *] <;> rfl) (by simp only [s_upd, Nat.reduceEqDiff, if_true, if_false, *] <;> rfl) (by simp only [s_upd, Nat.reduceEqDiff, if_true, if_false, *] <;> rfl) (SubH.refl _) h1 f3 (.inl rfl) rfl (fun hg => key _ (fun h => by cases h) hg)
      | false =>
        obtain rfl := hnil rfl
        clear hcert his hnil
        show ACx _ (seqs [p3_0, p3_1, p3_2, (.seq (.reg r3_3) k3_3), p3_4, p3_5] (.seq (.seq (.reg r3_6) k3_6) (seqs [p3_7] d3_2))) _ _ _
        refine acx_seqs hQ (K := fun A H' => Hold (ACx ⟨Try.prog, 170, none⟩ (.seq (.seq (.reg r3_6) k3_6) (seqs [p3_7] d3_2)) (Q3 H) A H')) (fun _ _ h => h.out) _ _ _ ?_
        (repeat' (first | (simp only [↓s_skip, ↓s_reg, ↓s_seq, ↓s_cond, ↓s_condF, ↓s_ret, ↓s_nil, ↓s_consN, ↓s_consG, ↓s_guardTT, ↓s_guardFF, ↓s_thenN, ↓s_thenR, ↓s_kret, ↓s_putS, ↓s_dOkS, ↓s_ev_t, ↓s_ev_c, ↓s_ev_f, ↓s_upd, ↓s_move, ↓s_assign, ↓s_isBool, ↓s_pickA, ↓s_pick, ↓s_bin, ↓s_un, ↓s_extract, ↓s_callB, ↓s_callV, ↓s_callL, ↓s_len, ↓s_un_not, ↓s_bin_gtr, ↓s_bin_eql, ↓s_bin_neq, vcExtract, intV, boolV, List.map_cons, List.map_nil, List.getD_cons_zero, List.getD_cons_succ, List.getD_nil, ite_true, ite_false, Nat.reduceEqDiff, Nat.reduceLT, ne_eq, not_false_eq_true, true_and, Bool.false_eq_true, Nat.succ_ne_self, decide_true, decide_false, Bool.not_true, reduceCtorEq, undefV, eq_self, List.getElem?_cons_zero, List.getElem?_cons_succ, n_lenS, undef, vcs, seqs, p3_0, p3_1, p3_2, k3_3, p3_4, p3_5, k3_6, p3_7, d3_2, r3_3, elT_22, en_7, en_8, en_9, en_10, en_12, en_11, *]) | (refine condL_splitD ?_ ?_ <;> intro) | (refine ret_tmp ?_) | (exact SubH.refl _) | (refine PureF.use (hfew) ?_) | (refine PureF.use (hask) ?_) | (refine PureF.use (hunk) ?_) | (refine PureF.use (hrows) ?_) | (refine PureF.use (href) ?_) | (refine PureF.use (awake8) ?_)))
        refine ⟨seq_reg2 hQ ?_⟩
        have hz : ¬ (0 : Int) < ((0 : Nat) : Int) := by omega
        unfold r3_6
        (repeat' (first | (refine g2_splitTD (fun _ => ?_) (fun _ => ?_)) | (simp only [↓s_skip, ↓s_reg, ↓s_seq, ↓s_seqL, ↓s_cond, ↓s_condF, ↓s_block, ↓s_loop, ↓s_nil, ↓s_consN, ↓s_consG, ↓s_guardTT, ↓s_guardFT, ↓s_thenN, ↓s_kret, ↓s_putS, ↓s_dOkS, ↓s_ev_t, ↓s_ev_c, ↓s_ev_f, ↓s_upd, ↓s_move, ↓s_assign, ↓s_isBool, ↓s_pickA, ↓s_pick, ↓s_bin, ↓s_un, ↓s_callB, ↓s_callV, ↓s_callL, ↓s_len, ↓s_un_not, ↓s_bin_leq, ↓s_bin_gtr, ↓s_bin_eql, intV, List.map_cons, List.map_nil, List.length_nil, List.getD_cons_zero, List.getD_cons_succ, List.getD_nil, ite_true, ite_false, Nat.reduceEqDiff, Nat.reduceLT, ne_eq, not_false_eq_true, true_and, Bool.false_eq_true, Nat.succ_ne_self, decide_true, decide_false, Bool.not_false, reduceCtorEq, callOk, undefV, eq_self, n_lenS, undef, l2_nil, l2_consN, l2_consG, g2_TT, g2_FT, g2_FF, g2_U, elT_22, elT_28, en_10, en_12, en_13, en_15, en_14, *]) | (refine PureF.use (hunk) ?_)))
        all_goals first
          | exact loop3 (s0 := decide (most = 5000)) (by simp only [s_upd, Nat.reduceEqDiff, if_false, *] <;> rfl) (by simp only [s_upd, Nat.reduceEqDiff, if_true, if_false, *] <;> rfl) (by simp only [s_upd, Nat.reduceEqDiff, if_true, if_false, *] <;> rfl) (by simp only [s_upd, Nat.reduceEqDiff, if_true, if_false, *] <;> rfl) (by simp only [s_upd, Nat.reduceEqDiff, if_true, if_false, *] <;> rfl) (by simp only [s_upd, Nat.reduceEqDiff, if_true, if_false, *] <;> rfl) (by simp only [s_upd, Nat.reduceEqDiff, if_true, if_false, *] <;> rfl) (SubH.refl _) h1 f3 hcode rfl (fun hg => key _ (fun h => ⟨by omega, by omega, of_decide_eq_true h⟩) hg)
          | exact loop3 (s0 := false) (by simp only [s_upd, Nat.reduceEqDiff, if_false, *] <;> rfl) (by simp only [s_upd, Nat.reduceEqDiff, if_true, if_false, *] <;> rfl) (by simp only [s_upd, Nat.reduceEqDiff, if_true, if_false, *] <;> rfl) (by simp only [s_upd, Nat.reduceEqDiff, if_true, if_false, *] <;> rfl) (by simp only [s_upd, Nat.reduceEqDiff, if_true, if_false, *] <;> rfl) (by simp only [s_upd, Nat.reduceEqDiff, if_true, if_false, *] <;> rfl) (by simp only [s_upd, Nat.reduceEqDiff, if_true, if_false, *] <;> rfl) (SubH.refl _) h1 f3 hcode rfl (fun hg => key _ (fun h => by cases h) hg)
    · have hb := asked_bad ha
      rw [hb] at href
      clear hb
      generalize askedF rows most = a at *
      show ACx _ (seqs [p3_0, p3_1, p3_2] (.seq (.seq (.reg r3_3) k3_3) (seqs [p3_4, p3_5, (.seq (.reg r3_6) k3_6), p3_7] d3_2))) _ _ _
      refine acx_seqs hQ (K := fun A H' => Hold (ACx ⟨Try.prog, 170, none⟩ (.seq (.seq (.reg r3_3) k3_3) (seqs [p3_4, p3_5, (.seq (.reg r3_6) k3_6), p3_7] d3_2)) (Q3 H) A H')) (fun _ _ h => h.out) _ _ _ ?_
      (repeat' (first | (simp only [↓s_skip, ↓s_reg, ↓s_seq, ↓s_cond, ↓s_condF, ↓s_nil, ↓s_consN, ↓s_thenN, ↓s_kret, ↓s_putS, ↓s_dOkS, ↓s_ev_t, ↓s_ev_c, ↓s_ev_f, ↓s_upd, ↓s_move, ↓s_assign, ↓s_un, ↓s_callV, ↓s_callL, ↓s_un_not, boolV, List.map_cons, List.map_nil, List.getD_cons_zero, List.getD_cons_succ, List.getD_nil, ite_true, ite_false, Nat.reduceEqDiff, Nat.reduceLT, true_and, Nat.succ_ne_self, Bool.not_true, reduceCtorEq, undefV, eq_self, undef, vcs, seqs, p3_0, p3_1, p3_2, k3_3, p3_4, p3_5, k3_6, p3_7, d3_2, en_7, en_9, *]) | (refine PureF.use (hfew) ?_) | (refine PureF.use (hask) ?_)))
      refine ⟨seq_reg2 hQ ?_⟩
      have hz : ((0 : Nat) : Int) = 0 := rfl
      unfold r3_3
      unfold Q3
      (repeat' (first | (simp only [↓s_skip, ↓s_reg, ↓s_seq, ↓s_cond, ↓s_condT, ↓s_condF, ↓s_ret, ↓s_nil, ↓s_consN, ↓s_consG, ↓s_guardTT, ↓s_thenN, ↓s_thenR, ↓s_kret, ↓s_putS, ↓s_dOkS, ↓s_ev_t, ↓s_ev_c, ↓s_ev_f, ↓s_upd, ↓s_move, ↓s_assign, ↓s_isBool, ↓s_pickA, ↓s_pick, ↓s_bin, ↓s_un, ↓s_extract, ↓s_callB, ↓s_callV, ↓s_callL, ↓s_len, ↓s_un_not, ↓s_bin_eql, ↓s_bin_neq, vcExtract, intV, boolV, List.map_cons, List.map_nil, List.length_nil, List.getD_cons_zero, List.getD_cons_succ, List.getD_nil, ite_true, ite_false, Nat.reduceEqDiff, Nat.reduceLT, ne_eq, not_false_eq_true, true_and, Bool.false_eq_true, Nat.succ_ne_self, decide_true, decide_false, Bool.not_false, reduceCtorEq, callOk, undefV, eq_self, List.getElem?_cons_zero, List.getElem?_cons_succ, n_lenS, undef, l2_nil, l2_consN, l2_consG, g2_FT, g2_U, elT_28, en_8, en_10, en_12, en_11, *]) | (refine ret_tmp ?_) | (exact SubH.refl _) | (refine PureF.use (hrows) ?_) | (refine PureF.use (href) ?_) | (refine PureF.use (awake8) ?_)))
end Go.PV.Ytefpjfpelicedaa
end
