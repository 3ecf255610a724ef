/- Part 5 of 9 of what the proof of Matches needs. -/
import Derived.Test.YtglpmlbbaedbiaaMatches4
import Derived.Laws.Strings
import Derived.Test.YtglpmlbbaedbiaaMatches3
import Derived.StringKeys
import Derived.OpenShut
import Derived.Handed
import Derived.JoinedOf
import Derived.Carry
import Derived.JoinedCond
import Derived.Test.YtglpmlbbaedbiaaRows
section
/- Building inside a block: a slice of its own within a block's cells. -/
set_option linter.unusedVariables false
set_option linter.unusedSimpArgs false
namespace Go.PV
open Go
theorem bytes_beq (a b : ByteArray) : (a.toList == b.toList) = decide (a = b) := by
  have h : a.toList = b.toList ↔ a = b := by
    rw [ByteArray.toList_eq, ByteArray.toList_eq]
    constructor
    · intro h; cases a; cases b; simp only [ByteArray.mk.injEq]; exact Array.toList_inj.1 h
    · rintro rfl; rfl
  rw [Bool.eq_iff_iff]
  simp [h]
theorem s_eqlS {P : Program} {H : AH} {KK : VE → AH → Prop} (t : TypeId) (x y : Operand) (a b : ByteArray) : vcBin P .eql t x y (.lit (.string a)) (.lit (.string b)) H KK = KK (.ret (.lit (.bool (decide (a = b))))) H := by
  simp only [vcBin, binV, bytes_beq]
theorem s_neqS {P : Program} {H : AH} {KK : VE → AH → Prop} (t : TypeId) (x y : Operand) (a b : ByteArray) : vcBin P .neq t x y (.lit (.string a)) (.lit (.string b)) H KK = KK (.ret (.lit (.bool (!decide (a = b))))) H := by
  simp only [vcBin, binV, bytes_beq]
/-- What hands back a slice of one's own. -/
def OwnF (P : Program) (f : FuncId) (xs : List VV) (H : AH) (e : TypeId) (k n : Nat) (cs : List VV) : Prop := VCalls P f xs H (fun r H' => ∃ v Hb, r = .ret v ∧ SubH H Hb ∧ OwnX Hb H' e k v n cs)
theorem OwnF.use {P : Program} {f : FuncId} {xs : List VV} {H : AH} {e : TypeId} {k n : Nat} {cs : List VV} {K : VE → AH → Prop} (h : OwnF P f xs H e k n cs) (hK : ∀ v H', OwnX H H' e k v n cs → K (.ret v) H') : VCalls P f xs H K := fun S w args hs hx =>
  (h S w args hs hx).mono fun e w' hq => by
    cases e with
    | returned v =>
      obtain ⟨S', H', y, h1, h2, h3, z, Hb, h4, h5, h6⟩ := hq
      cases h4
      obtain ⟨H2, g1, g2⟩ := h6.shrink h5
      exact ⟨S', H2, _, h1.trans (h2.sub g2).2, (h2.sub g2).1, h3, hK _ _ g1⟩
    | panicked ch => obtain ⟨S', H', h1, h2, z, Hb, h4, _⟩ := hq; cases h4
    | outgrown => exact hq
theorem OwnX.put {H0 H : AH} {e : TypeId} {k n r : Nat} {v : VV} {cs : List VV} {b0 : Blk} (h : OwnX H0 H e k v n cs) (hr : H0 r = some b0) (b : Blk) : OwnX (H0.set r b) (H.set r b) e k v n cs := by
  rcases h with ⟨rfl, rfl, rfl, rfl⟩ | ⟨g, c, sp, rfl, h0, rfl, h1, h2, h3, h4⟩
  · exact .inl ⟨rfl, rfl, rfl, rfl⟩
  · have hg : ¬ g = r := fun e => by subst e; rw [h0] at hr; cases hr
    refine .inr ⟨g, c, sp, rfl, ?_, AH.comm _ _ (fun e => hg e.symm), h1, h2, h3, h4⟩
    rw [AH.get, if_neg hg]; exact h0
theorem OwnX.cells {H0 H : AH} {e : TypeId} {k n : Nat} {v : VV} {cs : List VV} (h : OwnX H0 H e k v n cs) : v.cells = [v] ∧ VV.one v = true := by
  rcases h with ⟨rfl, _⟩ | ⟨g, c, sp, rfl, _⟩ <;> exact ⟨rfl, rfl⟩
theorem OwnX.swap {H0 H1 H2 : AH} {e e' : TypeId} {k k' n n' : Nat} {v v' : VV} {cs cs' : List VV} (h : OwnX H0 H1 e k v n cs) (h' : OwnX H1 H2 e' k' v' n' cs') : ∃ Hx, OwnX H0 Hx e' k' v' n' cs' ∧ OwnX Hx H2 e k v n cs := by
  rcases h' with ⟨rfl, rfl, rfl, rfl⟩ | ⟨g, c, sp, rfl, h0, rfl, h1, h2, h3, h4⟩
  · exact ⟨H0, OwnX.nil _ _ _, h⟩
  · exact ⟨H0.set g (.cells e' cs' sp), .inr ⟨g, c, sp, rfl, h.sub.none h0, rfl, h1, h2, h3, h4⟩, h.alloc h0 _⟩
theorem OwnX.form {H0 H1 : AH} {e : TypeId} {k n : Nat} {v : VV} {cs : List VV} (h : OwnX H0 H1 e k v n cs) : ∃ a c, v = .lit (.slice a n c) := by
  rcases h with ⟨rfl, rfl, _⟩ | ⟨g, c, sp, rfl, _⟩
  · exact ⟨none, 0, rfl⟩
  · exact ⟨_, c, rfl⟩
/-- One element, appended to a slice of one's own. -/
theorem append_one {P : Program} {H0 H : AH} {K : VE → AH → Prop} {t e : TypeId} {k b : Nat} {zs : List Value} {s : VV} {n : Nat} {cs xs : List VV} (hel : elT P t = some (e, k, b)) (hz : zeroT P e = some zs) (hzk : zs.length = k) (hk : 0 < k) (ho : OwnX H0 H e k s n cs) (hx : xs.length = k)
    (hone : xs.all VV.one = true) (hb : (n + 1) * b ≤ 140737488355328) (h63 : n + 1 ≤ 9223372036854775807) (hK : ∀ v' H', OwnX H0 H' e k v' (n + 1) (cs ++ xs) → K (.ret v') H') : AppendA P t s (.slice true 1 xs) H K := by
  refine append_own hel hz hzk hk ho (m := 1) (news := xs) ?_ hone hb h63 hK
  simp only [srcV, Nat.one_mul, hx, Nat.le_refl, if_true]
  rw [List.take_of_length_le (by omega)]
/-- One element, appended to a slice without room. -/
theorem append_clip1 {P : Program} {H : AH} {K : VE → AH → Prop} {t e : TypeId} {k b : Nat} {zs : List Value} {n : Nat} {cs xs : List VV} (hel : elT P t = some (e, k, b)) (hz : zeroT P e = some zs) (hzk : zs.length = k) (hk : 0 < k) (hcl : cs.length = n * k) (hx : xs.length = k)
    (hone : xs.all VV.one = true) (hb : (n + 1) * b ≤ 140737488355328) (h63 : n + 1 ≤ 9223372036854775807) (hK : ∀ v' H', OwnX H H' e k v' (n + 1) (cs ++ xs) → K (.ret v') H') : AppendA P t (.slice true n cs) (.slice true 1 xs) H K := by
  refine append_clip hel hz hzk hk hcl (m := 1) (news := xs) ?_ hone hb h63 (fun h => by omega) (fun _ => hK)
  simp only [srcV, Nat.one_mul, hx, Nat.le_refl, if_true]
  rw [List.take_of_length_le (by omega)]
/-- The slice that the block 'r' holds between 'pre' and 'post' owns 'cs'. -/
structure InB (H0 H : AH) (r : Nat) (T : TypeId) (pre post : List VV) (e k n : Nat) (cs : List VV) (v : VV) (Hb : AH) : Prop where
  own : OwnX Hb H e k v n cs
  blk : Hb r = some (.cells T (pre ++ v :: post) 0)
  sub : SubH H0 Hb
  new : H0 r = none
section
variable {H0 H : AH} {r : Nat} {T : TypeId} {pre post : List VV} {e k n : Nat} {cs : List VV} {v : VV} {Hb : AH}
theorem InB.at (h : InB H0 H r T pre post e k n cs v Hb) : H r = some (.cells T (pre ++ v :: post) 0) := h.own.sub _ _ h.blk
theorem InB.sub' (h : InB H0 H r T pre post e k n cs v Hb) : SubH H0 H := h.sub.trans h.own.sub
theorem InB.start (hr : H r = some (.cells T (pre ++ .lit (.slice none 0 0) :: post) 0)) (hs : SubH H0 H) (hn : H0 r = none) : InB H0 H r T pre post e k 0 [] (.lit (.slice none 0 0)) H := ⟨OwnX.nil _ _ _, hr, hs, hn⟩
theorem InB.alloc (h : InB H0 H r T pre post e k n cs v Hb) {z : Nat} (hz : H z = none) (b : Blk) : InB H0 (H.set z b) r T pre post e k n cs v (Hb.set z b) := by
  have hb : Hb z = none := h.own.sub.none hz
  refine ⟨h.own.alloc hz b, ?_, h.sub.of_set (h.sub.none hb), h.new⟩
  rw [AH.get, if_neg]
  · exact h.blk
  · rintro rfl; rw [h.blk] at hb; cases hb
/-- Behind an append: the new slice is laid into the block. -/
theorem InB.next {v' : VV} {H' : AH} {n' : Nat} {cs' : List VV} (h : InB H0 H r T pre post e k n cs v Hb) (ho : OwnX Hb H' e k v' n' cs') : InB H0 (H'.set r (.cells T (pre ++ v' :: post) 0)) r T pre post e k n' cs' v' (Hb.set r (.cells T (pre ++ v' :: post) 0)) :=
  ⟨ho.put h.blk _, AH.set_same _ _ _, h.sub.of_set h.new, h.new⟩
/-- What the block holds stands for its content. -/
theorem InB.back (h : InB H0 H r T pre post e k n cs v Hb) : GhL H (pre ++ v :: post) H0 (pre ++ .slice false n cs :: post) := by
  refine GhL.append rfl (GhL.refl _ _) (GhL.cons ((GhV.own h.own).trans (GhV.forget h.sub _)) (GhL.refl _ _))
/-- The same behind a store into the result's cell. -/
theorem InB.ret {r2 : Nat} {b2 : Blk} (h : InB (H0.set r2 b2) H r T pre post e k n cs v Hb) (n2 : H0 r2 = none) (b : Blk) : GhL (H.set r2 b) (pre ++ v :: post) H0 (pre ++ .slice false n cs :: post) := by
  have hb := h.sub _ _ (AH.set_same H0 r2 b2)
  have hs : SubH H0 (Hb.set r2 b) := ((SubH.new n2).trans h.sub).of_set n2
  exact GhL.append rfl (GhL.refl _ _) (GhL.cons ((GhV.own (h.own.put hb b)).trans (GhV.forget hs _)) (GhL.refl _ _))
theorem InB.cell2 {r2 : Nat} {b2 : Blk} (h : InB (H0.set r2 b2) H r T pre post e k n cs v Hb) : H r2 = some b2 := h.sub' _ _ (AH.set_same H0 r2 b2)
end
theorem AH.del_get (H : AH) (r i : Nat) : H.del r i = if i = r then none else H i := rfl
theorem OwnX.del {H0 H : AH} {e : TypeId} {k n r : Nat} {v : VV} {cs : List VV} {b : Blk} (h : OwnX H0 H e k v n cs) (hr : H0 r = some b) : OwnX (H0.del r) (H.del r) e k v n cs := by
  rcases h with ⟨rfl, rfl, rfl, rfl⟩ | ⟨g, c, sp, rfl, h0, rfl, h1, h2, h3, h4⟩
  · exact .inl ⟨rfl, rfl, rfl, rfl⟩
  · have hg : ¬ g = r := fun e => by subst e; rw [h0] at hr; cases hr
    refine .inr ⟨g, c, sp, rfl, ?_, ?_, h1, h2, h3, h4⟩
    · rw [AH.del_get, if_neg hg]; exact h0
    · funext i
      simp only [AH.del_get, AH.get]
      by_cases e1 : i = r
      · subst e1
        rw [if_pos rfl, if_neg (fun e => hg e.symm), if_pos rfl]
      · rw [if_neg e1, if_neg e1]
/-- The block's content, and all else that was laid since is forgotten. -/
theorem InB.ghost {H0 H : AH} {r : Nat} {T : TypeId} {pre post : List VV} {e k n : Nat} {cs : List VV} {v : VV} {Hb : AH} (h : InB H0 H r T pre post e k n cs v Hb) (N : Nat) (A : AF) :
    Ghost N A H A (H0.set r (.cells T (pre ++ .slice false n cs :: post) 0)) := by
  refine Ghost.cell h.at ?_
  have hs : SubH H0 (Hb.del r) := h.sub.del h.new
  exact GhL.append rfl (GhL.refl _ _) (GhL.cons ((GhV.own (h.own.del h.blk)).trans (GhV.forget hs _)) (GhL.refl _ _))
/-- A slice of one's own in a temporary: its content, and all else that was laid since is forgotten. -/
theorem OwnX.ghost {H0 H Hb : AH} {e : TypeId} {k n i : Nat} {cs : List VV} {t : Nat → VV} {d : List Deferred} (h : OwnX Hb H e k (t i) n cs) (hs : SubH H0 Hb) (N : Nat) :
    Ghost N ⟨t, d⟩ H ⟨upd t i (.slice false n cs), d⟩ H0 := Ghost.slot (A := ⟨t, d⟩) ((GhV.own h).trans (GhV.forget hs _))
/-- What a heap that holds more gives. -/
theorem GhL.from {H H1 : AH} {H' : AH} {xs xs' : List VV} (hs : SubH H1 H) (h : GhL H1 xs H' xs') : GhL H xs H' xs' := fun S w us hw hx => by
  obtain ⟨s1, s2⟩ := hw.sub hs
  obtain ⟨S', a1, a2, a3⟩ := h S w us s1 (hx.step hw s2)
  exact ⟨S', s2.trans a1, a2, a3⟩
theorem GhV.from {H H1 : AH} {H' : AH} {xs xs' : VV} (hs : SubH H1 H) (h : GhV H1 xs H' xs') : GhV H xs H' xs' := fun S w us hw hx => by
  obtain ⟨s1, s2⟩ := hw.sub hs
  obtain ⟨S', a1, a2, a3⟩ := h S w us s1 (hx.step hw s2)
  exact ⟨S', s2.trans a1, a2, a3⟩
theorem gives_use {P : Program} {f : FuncId} {xs : List VV} {x : VV} {H H1 : AH} {K : VE → AH → Prop} (h : VCalls P f xs H1 (fun e H' => ∃ y, e = .ret y ∧ GhV H' y H x)) (k : K (.ret x) H) : VCalls P f xs H1 K := fun S w args hs hx =>
  (h S w args hs hx).mono fun e w' hq => by
    cases e with
    | returned v =>
      obtain ⟨S', H', y, h1, h2, h3, z, h4, h5⟩ := hq
      cases h4
      obtain ⟨S'', g1, g2, g3⟩ := h5 S' w' v h2 h3
      exact ⟨S'', H, x, h1.trans g1, g2, g3, k⟩
    | panicked ch => obtain ⟨S', H', h1, h2, z, h4, h5⟩ := hq; cases h4
    | outgrown => exact hq
theorem RvC.pre {S : Nat → Prop} {w : World} : ∀ {xs ys : List VV} {r o : Nat}, RvC S w (xs ++ ys) r o → RvC S w xs r o
  | [], _, _, _, _ => trivial
  | x :: xs, ys, r, o, h => ⟨h.1, RvC.pre h.2⟩
/-- What stands behind a slice's content is forgotten. -/
theorem GhV.trunc (H : AH) (ex : Bool) (n : Nat) (xs ys : List VV) : GhV H (.slice ex n (xs ++ ys)) H (.slice ex n xs) := fun S w u hs hx => by
  obtain ⟨a, cap, rfl, h1, h2⟩ := hx
  refine ⟨S, .refl _ _ _, hs, a, cap, rfl, h1, fun hn => ?_⟩
  obtain ⟨r, o, e, hr, hc⟩ := h2 hn
  exact ⟨r, o, e, hr, hc.pre⟩
theorem acx_to {cx : Cx} {c : Code} {a : ACode} {Q : APost} {A : AF} {H : AH} (h : compile cx.P c = a) (k : ACx cx a Q A H) : AC cx c Q A H := k c h
theorem encC_setAt {α : Type} {enc : α → List VV} {k : Nat} (hk : ∀ x, (enc x).length = k) : ∀ {l : List α} {i : Nat} (x : α), i < l.length → setAt (encC enc l) (i * k) (enc x) = encC enc (l.set i x)
  | y :: l, 0, x, _ => by
    rw [setAt_eq _ _ _ (by rw [encC_cons, List.length_append, hk, hk]; omega)]
    rw [Nat.zero_mul, List.take_zero, List.nil_append, Nat.zero_add, encC_cons, List.drop_append, hk, ← hk y, List.drop_length, Nat.sub_self]
    rfl
  | y :: l, i + 1, x, h => by
    have h' : i < l.length := by simpa using h
    have ih := encC_setAt hk x h'
    have hl := encC_length hk l
    have hle : i * k + (enc x).length ≤ (encC enc l).length := by
      rw [hl, hk]
      have : (i + 1) * k ≤ l.length * k := Nat.mul_le_mul_right k (by omega)
      rw [Nat.succ_mul] at this; exact this
    rw [setAt_eq _ _ _ hle] at ih
    have hy := hk y
    rw [setAt_eq _ _ _ (by rw [encC_cons, List.length_append, Nat.succ_mul]; omega)]
    rw [List.set_cons_succ, encC_cons, encC_cons, ← ih, Nat.succ_mul, Nat.add_comm (i * k) k, List.take_append, List.drop_append, hy]
    have e1 : (enc y).take (k + i * k) = enc y := List.take_of_length_le (by rw [hk]; omega)
    have e2 : k + i * k - k = i * k := by omega
    have e3 : (enc y).drop (k + i * k + (enc x).length) = [] := List.drop_eq_nil_of_le (by rw [hk]; omega)
    have e4 : k + i * k + (enc x).length - k = i * k + (enc x).length := by omega
    rw [e1, e2, e3, e4]
    simp [List.append_assoc]
end Go.PV
end
section
/- Expressions, patterns, functions, programs: by content. -/
set_option linter.unusedVariables false
set_option linter.unusedSimpArgs false
namespace Go.PV.Ytglpmlbbaedbiaa
open Go Go.Proofs
abbrev sV (s : ByteArray) : VV := .lit (.string s)
abbrev bV (b : Bool) : VV := .lit (.bool b)
/-! ### Expressions -/
inductive Ex where
  | mk (op : Int) (name : ByteArray) (kids : List Ex)
def Ex.op : Ex → Int | .mk o _ _ => o
def Ex.name : Ex → ByteArray | .mk _ n _ => n
def Ex.kids : Ex → List Ex | .mk _ _ k => k
theorem Ex.eta (e : Ex) : Ex.mk e.op e.name e.kids = e := by cases e; rfl
mutual
def exE : Ex → List VV
  | .mk op n ks => [iV op, sV n, .slice false ks.length (exsE ks)]
def exsE : List Ex → List VV
  | [] => []
  | k :: ks => exE k ++ exsE ks
end
theorem exsE_eq : ∀ ks, exsE ks = encC exE ks
  | [] => rfl
  | k :: ks => by rw [exsE, encC_cons, exsE_eq ks]
theorem exE_eq (e : Ex) : exE e = [iV e.op, sV e.name, encS exE e.kids] := by
  cases e; rw [exE, exsE_eq]; rfl
abbrev exV (e : Ex) : VV := .agg [iV e.op, sV e.name, encS exE e.kids]
abbrev exsV (l : List Ex) : VV := encS exE l
theorem exE_len (e : Ex) : (exE e).length = 3 := by rw [exE_eq]; rfl
theorem ex_drop {l : List Ex} {i : Nat} (hi : i < l.length) : (encC exE l).drop (i * 3) = iV l[i].op :: sV l[i].name :: encS exE l[i].kids :: encC exE (l.drop (i + 1)) := by
  rw [encC_drop exE_len hi, exE_eq]; rfl
mutual
/-- The number of nodes. -/
def Ex.sz : Ex → Nat
  | .mk _ _ ks => 1 + exsSz ks
def exsSz : List Ex → Nat
  | [] => 0
  | k :: ks => k.sz + exsSz ks
end
mutual
def Ex.dp : Ex → Nat
  | .mk _ _ ks => exsDp ks + 1
def exsDp : List Ex → Nat
  | [] => 0
  | k :: ks => max k.dp (exsDp ks)
end
theorem Ex.sz_eq (e : Ex) : e.sz = 1 + exsSz e.kids := by cases e; rfl
theorem Ex.dp_eq (e : Ex) : e.dp = exsDp e.kids + 1 := by cases e; rfl
theorem Ex.sz_pos (e : Ex) : 0 < e.sz := by rw [e.sz_eq]; omega
theorem exsSz_len : ∀ (l : List Ex), l.length ≤ exsSz l
  | [] => by simp [exsSz]
  | k :: l => by have := exsSz_len l; have := k.sz_pos; rw [exsSz, List.length_cons]; omega
theorem exsSz_mem {e : Ex} : ∀ {l : List Ex}, e ∈ l → e.sz ≤ exsSz l
  | k :: l, h => by
    rw [exsSz]
    rcases List.mem_cons.1 h with rfl | h
    · omega
    · have := exsSz_mem h; omega
mutual
theorem Ex.dp_le : ∀ e : Ex, e.dp ≤ e.sz
  | .mk _ _ ks => by have := exsDp_le ks; rw [Ex.dp, Ex.sz]; omega
theorem exsDp_le : ∀ l : List Ex, exsDp l ≤ exsSz l
  | [] => by simp [exsDp]
  | k :: l => by have := Ex.dp_le k; have := exsDp_le l; rw [exsDp, exsSz]; omega
end
/-- An induction over what is within. -/
theorem Ex.ind {p : Ex → Prop} (h : ∀ e : Ex, (∀ k ∈ e.kids, p k) → p e) (e : Ex) : p e := by
  have : ∀ n (e : Ex), e.sz ≤ n → p e := by
    intro n
    induction n with
    | zero => intro e he; have := e.sz_pos; omega
    | succ n ih => intro e he; exact h e fun k hk => ih k (by have := exsSz_mem hk; have := e.sz_eq; omega)
  exact this e.sz e (Nat.le_refl _)
/-! ### Patterns -/
inductive Pa where
  | mk (con : Bool) (name : ByteArray) (kids : List Pa)
def Pa.con : Pa → Bool | .mk o _ _ => o
def Pa.name : Pa → ByteArray | .mk _ n _ => n
def Pa.kids : Pa → List Pa | .mk _ _ k => k
theorem Pa.eta (e : Pa) : Pa.mk e.con e.name e.kids = e := by cases e; rfl
mutual
def paE : Pa → List VV
  | .mk c n ks => [bV c, sV n, .slice false ks.length (pasE ks)]
def pasE : List Pa → List VV
  | [] => []
  | k :: ks => paE k ++ pasE ks
end
theorem pasE_eq : ∀ ks, pasE ks = encC paE ks
  | [] => rfl
  | k :: ks => by rw [pasE, encC_cons, pasE_eq ks]
theorem paE_eq (e : Pa) : paE e = [bV e.con, sV e.name, encS paE e.kids] := by
  cases e; rw [paE, pasE_eq]; rfl
abbrev paV (e : Pa) : VV := .agg [bV e.con, sV e.name, encS paE e.kids]
abbrev pasV (l : List Pa) : VV := encS paE l
theorem paE_len (e : Pa) : (paE e).length = 3 := by rw [paE_eq]; rfl
theorem pa_drop {l : List Pa} {i : Nat} (hi : i < l.length) : (encC paE l).drop (i * 3) = bV l[i].con :: sV l[i].name :: encS paE l[i].kids :: encC paE (l.drop (i + 1)) := by
  rw [encC_drop paE_len hi, paE_eq]; rfl
mutual
def Pa.sz : Pa → Nat
  | .mk _ _ ks => 1 + pasSz ks
def pasSz : List Pa → Nat
  | [] => 0
  | k :: ks => k.sz + pasSz ks
end
theorem Pa.sz_eq (e : Pa) : e.sz = 1 + pasSz e.kids := by cases e; rfl
theorem Pa.sz_pos (e : Pa) : 0 < e.sz := by rw [e.sz_eq]; omega
theorem pasSz_len : ∀ (l : List Pa), l.length ≤ pasSz l
  | [] => by simp [pasSz]
  | k :: l => by have := pasSz_len l; have := k.sz_pos; rw [pasSz, List.length_cons]; omega
theorem pasSz_mem {e : Pa} : ∀ {l : List Pa}, e ∈ l → e.sz ≤ pasSz l
  | k :: l, h => by
    rw [pasSz]
    rcases List.mem_cons.1 h with rfl | h
    · omega
    · have := pasSz_mem h; omega
theorem Pa.ind {p : Pa → Prop} (h : ∀ e : Pa, (∀ k ∈ e.kids, p k) → p e) (e : Pa) : p e := by
  have : ∀ n (e : Pa), e.sz ≤ n → p e := by
    intro n
    induction n with
    | zero => intro e he; have := e.sz_pos; omega
    | succ n ih => intro e he; exact h e fun k hk => ih k (by have := pasSz_mem hk; have := e.sz_eq; omega)
  exact this e.sz e (Nat.le_refl _)
/-! ### Clauses, functions, programs -/
structure Cl where
  pats : List Pa
  body : Ex
abbrev clE (c : Cl) : List VV := [pasV c.pats, iV c.body.op, sV c.body.name, exsV c.body.kids]
abbrev clsV (l : List Cl) : VV := encS clE l
theorem cl_drop {l : List Cl} {i : Nat} (hi : i < l.length) : (encC clE l).drop (i * 4) = pasV l[i].pats :: iV l[i].body.op :: sV l[i].body.name :: exsV l[i].body.kids :: encC clE (l.drop (i + 1)) := encC_drop (enc := clE) (k := 4) (fun _ => rfl) hi
structure Fu where
  name : ByteArray
  arity : Int
  cls : List Cl
abbrev fuE (c : Fu) : List VV := [sV c.name, iV c.arity, clsV c.cls]
abbrev fuV (c : Fu) : VV := .agg (fuE c)
structure Co where
  name : ByteArray
  arity : Int
structure Pr where
  cons : List Co
  funs : List Fu
def clSz (c : Cl) : Nat := 1 + pasSz c.pats + c.body.sz
def clsSz (l : List Cl) : Nat := (l.map clSz).sum
def fuSz (f : Fu) : Nat := 1 + clsSz f.cls
theorem sum_mem {α : Type} {f : α → Nat} {x : α} : ∀ {l : List α}, x ∈ l → f x ≤ (l.map f).sum
  | y :: l, h => by
    rw [List.map_cons, List.sum_cons]
    rcases List.mem_cons.1 h with rfl | h
    · omega
    · have := sum_mem (f := f) h; omega
theorem sum_len {α : Type} {f : α → Nat} (hf : ∀ x, 0 < f x) : ∀ (l : List α), l.length ≤ (l.map f).sum
  | [] => by simp
  | y :: l => by have := sum_len hf l; have := hf y; rw [List.map_cons, List.sum_cons, List.length_cons]; omega
theorem clSz_pos (c : Cl) : 0 < clSz c := by unfold clSz; omega
/-! ### Bindings, names -/
abbrev Bd := ByteArray × Ex
abbrev bdE (b : Bd) : List VV := [sV b.1, iV b.2.op, sV b.2.name, exsV b.2.kids]
abbrev bdsV (l : List Bd) : VV := encS bdE l
theorem bd_drop {l : List Bd} {i : Nat} (hi : i < l.length) : (encC bdE l).drop (i * 4) = sV l[i].1 :: iV l[i].2.op :: sV l[i].2.name :: exsV l[i].2.kids :: encC bdE (l.drop (i + 1)) := encC_drop (enc := bdE) (k := 4) (fun _ => rfl) hi
abbrev strE (s : ByteArray) : List VV := [sV s]
abbrev strsV (l : List ByteArray) : VV := encS strE l
theorem str_drop {l : List ByteArray} {i : Nat} (hi : i < l.length) : (encC strE l).drop i = sV l[i] :: encC strE (l.drop (i + 1)) := encC_drop1 (enc := fun s : ByteArray => sV s) hi
theorem take_snoc {α : Type} {l : List α} {i : Nat} (h : i < l.length) : l.take (i + 1) = l.take i ++ [l[i]] := List.take_succ_eq_append_getElem h
end Go.PV.Ytglpmlbbaedbiaa
end
section
/- The number of nodes. -/
set_option linter.unusedVariables false
set_option linter.unusedSimpArgs false
set_option maxRecDepth 20000
set_option maxHeartbeats 4000000
namespace Go.PV.Ytglpmlbbaedbiaa
open Go Go.Proofs
theorem exsSz_drop {l : List Ex} {i : Nat} (h : i < l.length) : exsSz (l.drop i) = l[i].sz + exsSz (l.drop (i + 1)) := by rw [List.drop_eq_getElem_cons h, exsSz]
theorem exsDp_drop {l : List Ex} {i : Nat} (h : i < l.length) : exsDp (l.drop i) = max l[i].dp (exsDp (l.drop (i + 1))) := by rw [List.drop_eq_getElem_cons h, exsDp]
theorem pasSz_drop {l : List Pa} {i : Nat} (h : i < l.length) : pasSz (l.drop i) = l[i].sz + pasSz (l.drop (i + 1)) := by rw [List.drop_eq_getElem_cons h, pasSz]
theorem size_ok (e : Ex) : e.sz ≤ 1152921504606846976 → PureF Try.prog 29 [exV e] (.tuple [iV e.sz, iV e.dp]) := by
  refine Ex.ind (p := fun e => e.sz ≤ 1152921504606846976 → PureF Try.prog 29 [exV e] (.tuple [iV e.sz, iV e.dp])) (fun e ih hs => ?_) e
  have hz := e.sz_eq
  have hl := exsSz_len e.kids
  have ih' : ∀ i (h : i < e.kids.length), PureF Try.prog 29 [exV e.kids[i]] (.tuple [iV e.kids[i].sz, iV e.kids[i].dp]) := fun i h => ih _ (List.getElem_mem h) (by have := exsSz_mem (List.getElem_mem h); omega)
  clear ih
  refine PureF.forget fun H => ?_
  refine vcalls_intro fd29 (by simp) ?_
  unfold c29
  obtain ⟨N, D, hN, hD, hNs, hlN⟩ : ∃ N D, e.sz = N ∧ e.dp = D ∧ N ≤ 1152921504606846976 ∧ e.kids.length ≤ N := ⟨_, _, rfl, rfl, hs, by omega⟩
  have hDN : D ≤ N := by have := e.dp_le; omega
  have h0 : 1 + exsSz e.kids = N := by omega
  have h1 : exsDp e.kids + 1 = D := by rw [← hD, e.dp_eq]
  rw [hN, hD]
  clear hs hl hz hN hD
  (repeat' (first | (simp only [↓s_reg, ↓s_seq, ↓s_seqL, ↓s_block, ↓s_loop, ↓s_nil, ↓s_consN, ↓s_thenN, ↓s_kret, ↓s_putS, ↓s_dOkS, ↓s_ev_t, ↓s_ev_c, ↓s_assign, ↓s_box, ptrV, List.getD_cons_zero, Nat.reduceLT, true_and, undefV, cl_agg, ↓n_box, undef, *]) | (refine allNew_intro fun zr zh => ?_; have zg := zh; (try simp only [AH.set_none] at zg))))
  refine acx_loop (fun _ _ _ h => h) (fun A H' => SubH H H' ∧ A.d = [] ∧ A.t 1 = ptrV zr 0 ∧ ∃ (i n d sp : Nat), H' zr = some (.cells 28 [iV e.op, sV e.name, encS exE e.kids] sp) ∧ i ≤ e.kids.length ∧ A.t 6 = iV i ∧ A.t 4 = iV n ∧ A.t 5 = iV d ∧ n + exsSz (e.kids.drop i) = N ∧ max d (exsDp (e.kids.drop i)) + 1 = D)
    (fun A _ => match A.t 6 with | .lit (.int _ i) => ((e.kids.length : Int) - i).toNat | _ => 0) ?_ ?_
  · exact ⟨SubH.new zh, rfl, rfl, 0, 1, 0, 0, AH.set_same _ _ _, by omega, rfl, rfl, rfl, h0, by simpa using h1⟩
  · clear h0 h1
    rintro ⟨t, d⟩ H' ⟨hs', rfl, h1, i, n, d, sp, k1, hi, h6, h4, h5, hn, hdd⟩
    dsimp only at h1 h4 h5 h6
    unfold b29_1
    (repeat' (first | (simp only [↓s_skip, ↓s_reg, ↓s_seq, ↓s_cond, ↓s_block, ↓s_exit, ↓s_nil, ↓s_consN, ↓s_thenN, ↓s_thenE, ↓s_inN, ↓s_inE, ↓s_kret, ↓s_putS, ↓s_dOkS, ↓s_ev_t, ↓s_ev_c, ↓s_ev_f, ↓s_upd, ↓s_move, ↓s_assign, ↓s_load, ↓s_bin, ↓s_fieldAddr, ↓s_indexAddr, ↓s_extract, ↓s_callB, ↓s_callV, ↓s_callL, ↓s_len, ↓s_max, ↓s_bin_lss, ↓s_bin_add, vcExtract, ptrV, intV, List.map_cons, List.map_nil, ite_true, ite_false, Nat.reduceEqDiff, Nat.reduceLT, ne_eq, not_false_eq_true, true_and, Nat.succ_ne_self, decide_true, decide_false, reduceCtorEq, Int.natCast_nonneg, Int.toNat_natCast, eq_self, Nat.zero_add, List.drop, and_self, List.getElem?_cons_zero, List.getElem?_cons_succ, vcMax, ldV_f, ldV_t3, Int.ofNat_lt, n_ldI, n_ldP, n_faP, n_ixS, n_ixA1, n_lenS, n_ldA, n_ldC, n_ldB, n_faA, ex_drop, flT_28_2, ldT_25, ldT_28, elT_25, en_29, *]) | (refine condL_splitD ?_ ?_ <;> intro) | (refine acx_go rfl (fun _ _ _ h => h) ?_) | (refine PureF.use (ih' _ (by assumption)) ?_) | (with_reducible refine And.intro ?_ ?_)))
    · rename_i hlt
      have e1 := exsSz_drop hlt
      rw [wrap_ok (n := (i : Int) + 1) (by omega) (by omega), wrap_ok (n := (n : Int) + (e.kids[i].sz : Int)) (by omega) (by omega)]
      exact ⟨i + 1, n + e.kids[i].sz, max d e.kids[i].dp, sp, rfl, by omega, rfl, by simp, by simp; split <;> omega, by omega, by rw [exsDp_drop hlt] at hdd; omega⟩
    · rename_i hlt
      rw [wrap_ok (n := (i : Int) + 1) (by omega) (by omega)]
      omega
    · rename_i hlt
      rw [List.drop_eq_nil_of_le (by omega)] at hn hdd
      unfold c29_1
      have hn' : N = n := by simpa [exsSz] using hn.symm
      have hd' : D = d + 1 := by simpa [exsDp] using hdd.symm
      subst hn'; subst hd'
      (repeat' (first | (simp only [↓s_reg, ↓s_seq, ↓s_ret, ↓s_nil, ↓s_consN, ↓s_thenN, ↓s_kret, ↓s_putS, ↓s_dOkS, ↓s_ev_t, ↓s_ev_c, ↓s_upd, ↓s_move, ↓s_assign, ↓s_bin, ↓s_bin_add, ite_true, ite_false, Nat.reduceEqDiff, Nat.reduceLT, true_and, Nat.succ_ne_self, eq_self, *])))
      rw [wrap_ok (n := (d : Int) + 1) (by omega) (by omega)]
      exact retPost_ret rfl (by simp only [resV, resAll, resOne, s_upd, Nat.reduceEqDiff, if_true, if_false, Option.bind_some, Option.map_some, tupV, *] <;> rfl) ⟨rfl, hs'⟩
theorem nodes_ok (e : Ex) (h : e.sz ≤ 1152921504606846976) : PureF Try.prog 8 [exV e] (.tuple [iV e.sz, iV e.dp]) := by
  refine PureF.forget fun H => ?_
  refine vcalls_intro fd8 (by simp) ?_
  unfold c8
  (repeat' (first | (simp only [↓s_reg, ↓s_seq, ↓s_ret, ↓s_nil, ↓s_consN, ↓s_thenN, ↓s_kret, ↓s_putS, ↓s_dOkS, ↓s_ev_t, ↓s_ev_c, ↓s_ev_f, ↓s_upd, ↓s_assign, ↓s_load, ↓s_box, ↓s_extract, ↓s_callV, ↓s_callL, vcExtract, ptrV, List.map_cons, List.map_nil, List.getD_cons_zero, List.getD_cons_succ, List.getD_nil, ite_true, ite_false, Nat.reduceEqDiff, Nat.reduceLT, true_and, Nat.succ_ne_self, undefV, AH.get, eq_self, List.drop, List.getElem?_cons_zero, List.getElem?_cons_succ, ldV_t3, cl_agg, ↓n_box, n_ldP, n_ldA, n_ldB, undef, ldT_28, en_29, *]) | (refine allNew_intro fun zr zh => ?_; have zg := zh; (try simp only [AH.set_none] at zg)) | (refine PureF.use (size_ok _ h) ?_)))
  exact retPost_ret rfl (by simp only [resV, resAll, resOne, s_upd, Nat.reduceEqDiff, if_true, if_false, Option.bind_some, Option.map_some, tupV, *] <;> rfl) ⟨rfl, SubH.new zh⟩
theorem pnodes_ok (e : Pa) : e.sz ≤ 1152921504606846976 → PureF Try.prog 15 [paV e] (iV e.sz) := by
  refine Pa.ind (p := fun e => e.sz ≤ 1152921504606846976 → PureF Try.prog 15 [paV e] (iV e.sz)) (fun e ih hs => ?_) e
  have hz := e.sz_eq
  have hl := pasSz_len e.kids
  have ih' : ∀ i (h : i < e.kids.length), PureF Try.prog 15 [paV e.kids[i]] (iV e.kids[i].sz) := fun i h => ih _ (List.getElem_mem h) (by have := pasSz_mem (List.getElem_mem h); omega)
  clear ih
  refine PureF.forget fun H => ?_
  refine vcalls_intro fd15 (by simp) ?_
  unfold c15
  obtain ⟨N, hN, hNs, hlN⟩ : ∃ N, e.sz = N ∧ N ≤ 1152921504606846976 ∧ e.kids.length ≤ N := ⟨_, rfl, hs, by omega⟩
  have h0 : 1 + pasSz e.kids = N := by omega
  rw [hN]
  clear hs hl hz hN
  (repeat' (first | (simp only [↓s_reg, ↓s_seq, ↓s_seqL, ↓s_block, ↓s_loop, ↓s_nil, ↓s_consN, ↓s_thenN, ↓s_kret, ↓s_putS, ↓s_dOkS, ↓s_ev_t, ↓s_ev_c, ↓s_upd, ↓s_move, ↓s_assign, ↓s_load, ↓s_box, ↓s_fieldAddr, ↓s_callB, ↓s_len, ptrV, intV, List.map_cons, List.map_nil, List.getD_cons_zero, List.getD_cons_succ, List.getD_nil, ite_true, ite_false, Nat.reduceEqDiff, Nat.reduceLT, ne_eq, not_false_eq_true, true_and, Nat.succ_ne_self, reduceCtorEq, undefV, AH.get, eq_self, Nat.zero_add, List.drop, ldV_f, cl_agg, ↓n_box, n_ldP, n_faP, n_lenS, n_ldA, n_ldB, n_faA, undef, flT_50_2, ldT_44, elT_44, *]) | (refine allNew_intro fun zr zh => ?_; have zg := zh; (try simp only [AH.set_none] at zg))))
  refine acx_loop (fun _ _ _ h => h) (fun A H' => SubH H H' ∧ A.d = [] ∧ A.t 7 = encS paE e.kids ∧ A.t 8 = iV e.kids.length ∧ ∃ (i n : Nat), i ≤ e.kids.length ∧ A.t 9 = iV i ∧ A.t 3 = iV n ∧ n + pasSz (e.kids.drop i) = N)
    (fun A _ => match A.t 9 with | .lit (.int _ i) => ((e.kids.length : Int) - i).toNat | _ => 0) ?_ ?_
  · exact ⟨SubH.new zh, rfl, rfl, rfl, 0, 1, by omega, rfl, rfl, h0⟩
  · clear h0
    rintro ⟨t, d⟩ H' ⟨hs', rfl, h7, h8, i, n, hi, h9, h3, hn⟩
    dsimp only at h7 h8 h9 h3
    unfold b15_1
    (repeat' (first | (simp only [↓s_skip, ↓s_reg, ↓s_seq, ↓s_cond, ↓s_block, ↓s_exit, ↓s_nil, ↓s_consN, ↓s_thenN, ↓s_thenE, ↓s_inN, ↓s_inE, ↓s_kret, ↓s_putS, ↓s_putN, ↓s_dOkS, ↓s_dOkN, ↓s_ev_t, ↓s_ev_c, ↓s_ev_f, ↓s_upd, ↓s_move, ↓s_assign, ↓s_load, ↓s_store, ↓s_bin, ↓s_alloc, ↓s_indexAddr, ↓s_callV, ↓s_callL, ↓s_bin_lss, ↓s_bin_add, ptrV, List.map_cons, List.map_nil, List.length_cons, List.length_nil, ite_true, ite_false, Nat.reduceEqDiff, Nat.reduceLT, Nat.reduceAdd, true_and, Nat.succ_ne_self, decide_true, decide_false, Int.natCast_nonneg, Int.toNat_natCast, AH.get, AH.set_set, setAt, List.all_cons, List.all_nil, Bool.and_self, eq_self, Nat.zero_add, List.drop, and_self, ldV_t3, Int.ofNat_lt, on_bool, on_str, cl_agg, on_slice, List.set_cons_zero, List.set_cons_succ, ↓n_alloc, n_allocS, Nat.le_refl, n_ldI, n_ldP, n_ixS, n_ixA1, n_ldA, n_ldC, n_ldB, n_stP, n_stA, pa_drop, ldT_50, szT_50, zeroT_50, elT_44, en_15, *]) | (refine condL_splitD ?_ ?_ <;> intro) | (refine acx_go rfl (fun _ _ _ h => h) ?_) | (refine allNew_intro fun zr zh => ?_; have zg := zh; (try simp only [AH.set_none] at zg)) | (refine SubH.of_set ?_ ?_) | (exact SubH.none (by assumption) (by assumption)) | (refine PureF.use (ih' _ (by assumption)) ?_) | (with_reducible refine And.intro ?_ ?_)))
    · rename_i hlt
      have e1 := pasSz_drop hlt
      rw [wrap_ok (n := (i : Int) + 1) (by omega) (by omega), wrap_ok (n := (n : Int) + (e.kids[i].sz : Int)) (by omega) (by omega)]
      exact ⟨i + 1, n + e.kids[i].sz, by omega, rfl, by simp, by omega⟩
    · rename_i hlt
      rw [wrap_ok (n := (i : Int) + 1) (by omega) (by omega)]
      omega
    · rename_i hlt
      rw [List.drop_eq_nil_of_le (by omega)] at hn
      unfold c15_1
      have hn' : N = n := by simpa [pasSz] using hn.symm
      subst hn'
      (repeat' (first | (simp only [↓s_reg, ↓s_seq, ↓s_ret, ↓s_nil, ↓s_consN, ↓s_thenN, ↓s_putS, ↓s_dOkS, ↓s_ev_t, ↓s_upd, ↓s_move, ↓s_assign, ite_true, ite_false, Nat.reduceEqDiff, Nat.reduceLT, true_and, eq_self, and_self, *]) | (refine ret_tmp ?_)))
end Go.PV.Ytglpmlbbaedbiaa
end
section
/- Copies of expressions and patterns. -/
set_option linter.unusedVariables false
set_option linter.unusedSimpArgs false
set_option maxRecDepth 20000
set_option maxHeartbeats 4000000
namespace Go.PV.Ytglpmlbbaedbiaa
open Go Go.Proofs
theorem ex_take {l : List Ex} {i : Nat} (h : i < l.length) : encC exE (l.take (i + 1)) = encC exE (l.take i) ++ [iV l[i].op, sV l[i].name, encS exE l[i].kids] := by
  rw [take_snoc h, encC_append]; simp only [encC_cons, encC_nil, List.append_nil, exE_eq]
theorem copyE_ok (e : Ex) : e.sz ≤ 1099511627776 → PureF Try.prog 18 [exV e] (exV e) := by
  refine Ex.ind (p := fun e => e.sz ≤ 1099511627776 → PureF Try.prog 18 [exV e] (exV e)) (fun e ih hs => ?_) e
  have hl := exsSz_len e.kids
  have ih' : ∀ i (h : i < e.kids.length), PureF Try.prog 18 [exV e.kids[i]] (exV e.kids[i]) := fun i h => ih _ (List.getElem_mem h) (by have := exsSz_mem (List.getElem_mem h); have := e.sz_eq; omega)
  have hN : e.kids.length ≤ 1099511627776 := by have := e.sz_eq; omega
  clear ih hl hs
  refine GivesF.pure fun H0 => ?_
  refine vcalls_intro fd18 (by simp) ?_
  unfold c18
  (repeat' (first | (simp only [↓s_reg, ↓s_seq, ↓s_seqL, ↓s_block, ↓s_loop, ↓s_nil, ↓s_consN, ↓s_thenN, ↓s_kret, ↓s_putS, ↓s_putN, ↓s_dOkS, ↓s_dOkN, ↓s_ev_t, ↓s_ev_c, ↓s_upd, ↓s_move, ↓s_load, ↓s_store, ↓s_alloc, ↓s_box, ↓s_build, ↓s_fieldAddr, ↓s_callB, ↓s_len, ptrV, intV, List.map_cons, List.map_nil, List.length_cons, List.length_nil, List.getD_cons_zero, List.getD_cons_succ, List.getD_nil, ite_true, ite_false, Nat.reduceEqDiff, Nat.reduceLT, Nat.reduceAdd, Nat.reduceLeDiff, ne_eq, not_false_eq_true, true_and, Nat.succ_ne_self, reduceCtorEq, undefV, AH.get, AH.set_set, vcBuild, fillV, setAt, List.all_cons, List.all_nil, Bool.and_self, eq_self, Nat.zero_add, Nat.add_zero, List.drop, and_self, List.getElem?_cons_zero, List.getElem?_cons_succ, ldV_f, cl_int, on_int, cl_str, on_str, on_sl, cl_agg, List.set_cons_zero, List.set_cons_succ, ↓n_alloc, n_allocS, ↓n_box, Nat.le_refl, n_ldP, n_faP, n_lenS, n_ldA, n_ldB, n_faA, n_stP, n_stA, undef, flT_28_0, flT_28_1, flT_28_2, ldT_3, ldT_9, ldT_25, szT_34, stT_34, zeroT_34, elT_25, *]) | (refine allNew_intro fun zr zh => ?_; have zg := zh; (try simp only [AH.set_none] at zg))))
  rename_i r1 n1 n1' r2 n2 n2'
  have n2'' := n2
  rw [AH.set_none] at n2''
  rw [AH.set_none] at zh
  obtain ⟨⟨d23, d32⟩, m3⟩ := zh
  rw [AH.set_none] at m3
  obtain ⟨⟨d13, d31⟩, z3⟩ := m3
  have hb : InB (H0.set r2 (.cells 34 [.lit (.int .i64 0), .lit (.string { data := #[] }), .lit (.slice none 0 0)] 0)) (((H0.set r1 (.cells 28 [iV e.op, sV e.name, encS exE e.kids] 0)).set r2 (.cells 34 [.lit (.int .i64 0), .lit (.string { data := #[] }), .lit (.slice none 0 0)] 0)).set zr (.cells 34 [iV e.op, sV e.name, .lit (.slice none 0 0)] 0)) zr 34 [iV e.op, sV e.name] [] 34 3 0 [] (.lit (.slice none 0 0)) _ :=
    InB.start (AH.set_same _ _ _) (((SubH.new n1).set _ _).trans (SubH.new (by simp only [AH.get, *, if_false]))) (by simp only [AH.get, *, if_false])
  generalize hH1 : ((H0.set r1 (.cells 28 [iV e.op, sV e.name, encS exE e.kids] 0)).set r2 (.cells 34 [.lit (.int .i64 0), .lit (.string { data := #[] }), .lit (.slice none 0 0)] 0)).set zr (.cells 34 [iV e.op, sV e.name, .lit (.slice none 0 0)] 0) = H1 at hb
  refine acx_loop (fun _ _ _ h => h) (fun A H => A.d = [] ∧ A.t 2 = ptrV r2 0 ∧ A.t 3 = ptrV zr 0 ∧ A.t 12 = encS exE e.kids ∧ A.t 13 = iV e.kids.length ∧ ∃ (i : Nat) (v : VV) (Hb : AH), i ≤ e.kids.length ∧ A.t 14 = iV i ∧ InB (H0.set r2 (.cells 34 [.lit (.int .i64 0), .lit (.string { data := #[] }), .lit (.slice none 0 0)] 0)) H zr 34 [iV e.op, sV e.name] [] 34 3 i (encC exE (e.kids.take i)) v Hb)
    (fun A _ => match A.t 14 with | .lit (.int _ i) => ((e.kids.length : Int) - i).toNat | _ => 0) ?_ ?_
  · exact ⟨rfl, rfl, rfl, rfl, rfl, 0, _, _, by omega, rfl, hb⟩
  · clear hb hH1
    rintro ⟨t, d⟩ H ⟨rfl, h2, h3, h12, h13, i, v, Hb, hi, h14, hb⟩
    dsimp only at h2 h3 h12 h13 h14
    have q3 := hb.at
    have q2 := hb.cell2
    unfold b18_1
    (repeat' (first | (simp only [↓s_skip, ↓s_reg, ↓s_seq, ↓s_cond, ↓s_block, ↓s_exit, ↓s_dreg, ↓s_nil, ↓s_consN, ↓s_thenN, ↓s_thenE, ↓s_inE, ↓s_kret, ↓s_putS, ↓s_putN, ↓s_dOkS, ↓s_dOkN, ↓s_ev_t, ↓s_ev_f, ↓s_upd, ↓s_load, ↓s_store, ↓s_bin, ↓s_alloc, ↓s_buildSlice, ↓s_fieldAddr, ↓s_indexAddr, ↓s_callB, ↓s_callV, ↓s_callL, ↓s_append, ↓s_bin_lss, ptrV, List.map_cons, List.map_nil, List.length_cons, List.length_nil, List.cons_append, List.nil_append, List.append_nil, ite_true, ite_false, Nat.reduceEqDiff, Nat.reduceLT, Nat.reduceAdd, Nat.reduceMul, Nat.reduceLeDiff, ne_eq, not_false_eq_true, true_and, Nat.succ_ne_self, decide_true, decide_false, Int.natCast_nonneg, Int.toNat_natCast, ↓s_plFin, ↓s_plTkN, ↓s_plOneN, AH.get, AH.set_set, fillV, setAt, List.all_cons, List.all_nil, Bool.and_self, eq_self, Nat.zero_add, List.drop, and_self, ldV_f, ldV_t3, Int.ofNat_lt, on_int, on_str, cl_agg, on_slice, List.set_cons_zero, List.set_cons_succ, ↓n_alloc, n_allocS, Nat.le_refl, n_ldI, n_ldP, n_faP, n_ixS, n_ixA1, n_ldA, n_ldC, n_ldB, n_faA, n_stP, n_stA, ↓s_plK, ↓s_oneK, vcBuildSlice, List.replicate_succ, List.replicate_zero, List.flatten_cons, List.flatten_nil, ex_drop, vcBuildSlice, flT_34_2, ldT_28, ldT_32, szT_28, zeroT_28, zeroT_34, elT_25, elT_32, en_18, *]) | (refine condL_splitD ?_ ?_ <;> intro) | (refine acx_go rfl (fun _ _ _ h => h) ?_) | (refine acx_dreg mixed (fun _ _ _ _ e h => ⟨e.trans h.1, h.2⟩) _ (SubH.refl _) ?_) | (refine allNew_intro fun zr zh => ?_; have zg := zh; (try simp only [AH.set_none] at zg); (try have zn_q2 := AH.ne_of q2 zh); (try have zn_q2 := AH.ne_of q2 zg.2); (try have zn_q2 := AH.ne_of q2 zg.2.2); (try have zn_q3 := AH.ne_of q3 zh); (try have zn_q3 := AH.ne_of q3 zg.2); (try have zn_q3 := AH.ne_of q3 zg.2.2)) | (exact SubH.refl _) | (refine PureF.use (ih' _ (by assumption)) ?_) | (with_reducible refine And.intro ?_ ?_)))
    · rename_i z0 hlt
      have hb1 := hb.alloc zh (.cells 28 [iV e.kids[i].op, sV e.kids[i].name, encS exE e.kids[i].kids] 0)
      refine append_one elT_32 zeroT_34 rfl (by omega) hb1.own rfl rfl (by omega) (by omega) (fun v' H' ho => ?_)
      have hb2 := hb1.next ho
      have q3' := ho.sub _ _ hb1.blk
      have hc1 := ho.cells.1
      have hc2 := ho.cells.2
      clear hb1 hb q3 q2 ho
      (repeat' (first | (simp only [↓s_reg, ↓s_nil, ↓s_consN, ↓s_thenN, ↓s_inN, ↓s_kret, ↓s_putS, ↓s_putN, ↓s_dOkS, ↓s_dOkN, ↓s_ev_t, ↓s_ev_c, ↓s_upd, ↓s_move, ↓s_store, ↓s_bin, ↓s_fieldAddr, ↓s_bin_add, ptrV, List.length_cons, List.length_nil, List.cons_append, List.nil_append, ite_true, ite_false, Nat.reduceEqDiff, Nat.reduceLT, Nat.reduceAdd, ne_eq, not_false_eq_true, true_and, Nat.succ_ne_self, setAt, List.all_cons, List.all_nil, Bool.and_self, eq_self, Nat.zero_add, List.set_cons_zero, List.set_cons_succ, Nat.le_refl, n_faP, n_faA, n_stP, n_stA, flT_34_2, szT_32, *]) | (with_reducible refine And.intro ?_ ?_)))
      all_goals rw [wrap_ok (n := (i : Int) + 1) (by omega) (by omega)]
      · rw [← ex_take hlt] at hb2
        exact ⟨i + 1, v', _, by omega, rfl, hb2⟩
      · omega
    · rename_i hlt
      have hin : i = e.kids.length := by omega
      subst hin
      rw [List.take_of_length_le (Nat.le_refl _)] at hb
      have hc1 := hb.own.cells.1
      have hc2 := hb.own.cells.2
      unfold c18_1
      (repeat' (first | (simp only [↓s_reg, ↓s_seq, ↓s_ret, ↓s_nil, ↓s_consN, ↓s_thenN, ↓s_kret, ↓s_putS, ↓s_putN, ↓s_dOkS, ↓s_dOkN, ↓s_ev_t, ↓s_upd, ↓s_load, ↓s_store, ptrV, List.length_cons, List.length_nil, List.cons_append, List.nil_append, ite_true, ite_false, Nat.reduceEqDiff, Nat.reduceLT, Nat.reduceAdd, true_and, setAt, List.all_cons, List.all_nil, Bool.and_self, eq_self, Nat.zero_add, List.drop, ldV_t3, on_int, on_str, cl_agg, List.set_cons_zero, List.set_cons_succ, Nat.le_refl, n_ldP, n_ldA, n_ldB, n_stP, n_stA, ldT_34, szT_34, *])))
      refine ret_cell ldT_34 (by simp only [s_upd, Nat.reduceEqDiff, if_false, *]; rfl) (AH.set_same _ _ _) (by rw [List.drop_zero]; exact ldV_t3 _ _ _ _) ?_
      exact ⟨_, rfl, GhV.agg (hb.ret n2'.2 _)⟩
theorem pa_take {l : List Pa} {i : Nat} (h : i < l.length) : encC paE (l.take (i + 1)) = encC paE (l.take i) ++ [bV l[i].con, sV l[i].name, encS paE l[i].kids] := by
  rw [take_snoc h, encC_append]; simp only [encC_cons, encC_nil, List.append_nil, paE_eq]
theorem copyP_ok (e : Pa) : e.sz ≤ 1099511627776 → PureF Try.prog 17 [paV e] (paV e) := by
  refine Pa.ind (p := fun e => e.sz ≤ 1099511627776 → PureF Try.prog 17 [paV e] (paV e)) (fun e ih hs => ?_) e
  have hl := pasSz_len e.kids
  have ih' : ∀ i (h : i < e.kids.length), PureF Try.prog 17 [paV e.kids[i]] (paV e.kids[i]) := fun i h => ih _ (List.getElem_mem h) (by have := pasSz_mem (List.getElem_mem h); have := e.sz_eq; omega)
  have hN : e.kids.length ≤ 1099511627776 := by have := e.sz_eq; omega
  clear ih hl hs
  refine GivesF.pure fun H0 => ?_
  refine vcalls_intro fd17 (by simp) ?_
  unfold c17
  (repeat' (first | (simp only [↓s_reg, ↓s_seq, ↓s_seqL, ↓s_block, ↓s_loop, ↓s_nil, ↓s_consN, ↓s_thenN, ↓s_kret, ↓s_putS, ↓s_putN, ↓s_dOkS, ↓s_dOkN, ↓s_ev_t, ↓s_ev_c, ↓s_upd, ↓s_move, ↓s_load, ↓s_store, ↓s_alloc, ↓s_box, ↓s_build, ↓s_fieldAddr, ↓s_callB, ↓s_len, ptrV, intV, List.map_cons, List.map_nil, List.length_cons, List.length_nil, List.getD_cons_zero, List.getD_cons_succ, List.getD_nil, ite_true, ite_false, Nat.reduceEqDiff, Nat.reduceLT, Nat.reduceAdd, Nat.reduceLeDiff, ne_eq, not_false_eq_true, true_and, Nat.succ_ne_self, reduceCtorEq, undefV, AH.get, AH.set_set, vcBuild, fillV, setAt, List.all_cons, List.all_nil, Bool.and_self, eq_self, Nat.zero_add, Nat.add_zero, List.drop, and_self, List.getElem?_cons_zero, List.getElem?_cons_succ, ldV_f, cl_bool, on_bool, cl_str, on_str, on_sl, cl_agg, List.set_cons_zero, List.set_cons_succ, ↓n_alloc, n_allocS, ↓n_box, Nat.le_refl, n_ldP, n_faP, n_lenS, n_ldA, n_ldB, n_faA, n_stP, n_stA, undef, flT_50_0, flT_50_1, flT_50_2, ldT_4, ldT_9, ldT_44, szT_57, stT_57, zeroT_57, elT_44, *]) | (refine allNew_intro fun zr zh => ?_; have zg := zh; (try simp only [AH.set_none] at zg))))
  rename_i r1 n1 n1' r2 n2 n2'
  have n2'' := n2
  rw [AH.set_none] at n2''
  rw [AH.set_none] at zh
  obtain ⟨⟨d23, d32⟩, m3⟩ := zh
  rw [AH.set_none] at m3
  obtain ⟨⟨d13, d31⟩, z3⟩ := m3
  have hb : InB (H0.set r2 (.cells 57 [.lit (.bool false), .lit (.string { data := #[] }), .lit (.slice none 0 0)] 0)) (((H0.set r1 (.cells 50 [bV e.con, sV e.name, encS paE e.kids] 0)).set r2 (.cells 57 [.lit (.bool false), .lit (.string { data := #[] }), .lit (.slice none 0 0)] 0)).set zr (.cells 57 [bV e.con, sV e.name, .lit (.slice none 0 0)] 0)) zr 57 [bV e.con, sV e.name] [] 57 3 0 [] (.lit (.slice none 0 0)) _ :=
    InB.start (AH.set_same _ _ _) (((SubH.new n1).set _ _).trans (SubH.new (by simp only [AH.get, *, if_false]))) (by simp only [AH.get, *, if_false])
  generalize hH1 : ((H0.set r1 (.cells 50 [bV e.con, sV e.name, encS paE e.kids] 0)).set r2 (.cells 57 [.lit (.bool false), .lit (.string { data := #[] }), .lit (.slice none 0 0)] 0)).set zr (.cells 57 [bV e.con, sV e.name, .lit (.slice none 0 0)] 0) = H1 at hb
  refine acx_loop (fun _ _ _ h => h) (fun A H => A.d = [] ∧ A.t 2 = ptrV r2 0 ∧ A.t 3 = ptrV zr 0 ∧ A.t 12 = encS paE e.kids ∧ A.t 13 = iV e.kids.length ∧ ∃ (i : Nat) (v : VV) (Hb : AH), i ≤ e.kids.length ∧ A.t 14 = iV i ∧ InB (H0.set r2 (.cells 57 [.lit (.bool false), .lit (.string { data := #[] }), .lit (.slice none 0 0)] 0)) H zr 57 [bV e.con, sV e.name] [] 57 3 i (encC paE (e.kids.take i)) v Hb)
    (fun A _ => match A.t 14 with | .lit (.int _ i) => ((e.kids.length : Int) - i).toNat | _ => 0) ?_ ?_
  · exact ⟨rfl, rfl, rfl, rfl, rfl, 0, _, _, by omega, rfl, hb⟩
  · clear hb hH1
    rintro ⟨t, d⟩ H ⟨rfl, h2, h3, h12, h13, i, v, Hb, hi, h14, hb⟩
    dsimp only at h2 h3 h12 h13 h14
    have q3 := hb.at
    have q2 := hb.cell2
    unfold b17_1
    (repeat' (first | (simp only [↓s_skip, ↓s_reg, ↓s_seq, ↓s_cond, ↓s_block, ↓s_exit, ↓s_dreg, ↓s_nil, ↓s_consN, ↓s_thenN, ↓s_thenE, ↓s_inE, ↓s_kret, ↓s_putS, ↓s_putN, ↓s_dOkS, ↓s_dOkN, ↓s_ev_t, ↓s_ev_f, ↓s_upd, ↓s_load, ↓s_store, ↓s_bin, ↓s_alloc, ↓s_buildSlice, ↓s_fieldAddr, ↓s_indexAddr, ↓s_callB, ↓s_callV, ↓s_callL, ↓s_append, ↓s_bin_lss, ptrV, List.map_cons, List.map_nil, List.length_cons, List.length_nil, List.cons_append, List.nil_append, List.append_nil, ite_true, ite_false, Nat.reduceEqDiff, Nat.reduceLT, Nat.reduceAdd, Nat.reduceMul, Nat.reduceLeDiff, ne_eq, not_false_eq_true, true_and, Nat.succ_ne_self, decide_true, decide_false, Int.natCast_nonneg, Int.toNat_natCast, ↓s_plFin, ↓s_plTkN, ↓s_plOneN, AH.get, AH.set_set, fillV, setAt, List.all_cons, List.all_nil, Bool.and_self, eq_self, Nat.zero_add, List.drop, and_self, ldV_f, ldV_t3, Int.ofNat_lt, on_bool, on_str, cl_agg, on_slice, List.set_cons_zero, List.set_cons_succ, ↓n_alloc, n_allocS, Nat.le_refl, n_ldI, n_ldP, n_faP, n_ixS, n_ixA1, n_ldA, n_ldC, n_ldB, n_faA, n_stP, n_stA, ↓s_plK, ↓s_oneK, vcBuildSlice, List.replicate_succ, List.replicate_zero, List.flatten_cons, List.flatten_nil, pa_drop, vcBuildSlice, flT_57_2, ldT_50, ldT_55, szT_50, zeroT_50, zeroT_57, elT_44, elT_55, en_17, *]) | (refine condL_splitD ?_ ?_ <;> intro) | (refine acx_go rfl (fun _ _ _ h => h) ?_) | (refine acx_dreg mixed (fun _ _ _ _ e h => ⟨e.trans h.1, h.2⟩) _ (SubH.refl _) ?_) | (refine allNew_intro fun zr zh => ?_; have zg := zh; (try simp only [AH.set_none] at zg); (try have zn_q2 := AH.ne_of q2 zh); (try have zn_q2 := AH.ne_of q2 zg.2); (try have zn_q2 := AH.ne_of q2 zg.2.2); (try have zn_q3 := AH.ne_of q3 zh); (try have zn_q3 := AH.ne_of q3 zg.2); (try have zn_q3 := AH.ne_of q3 zg.2.2)) | (exact SubH.refl _) | (refine PureF.use (ih' _ (by assumption)) ?_) | (with_reducible refine And.intro ?_ ?_)))
    · rename_i z0 hlt
      have hb1 := hb.alloc zh (.cells 50 [bV e.kids[i].con, sV e.kids[i].name, encS paE e.kids[i].kids] 0)
      refine append_one elT_55 zeroT_57 rfl (by omega) hb1.own rfl rfl (by omega) (by omega) (fun v' H' ho => ?_)
      have hb2 := hb1.next ho
      have q3' := ho.sub _ _ hb1.blk
      have hc1 := ho.cells.1
      have hc2 := ho.cells.2
      clear hb1 hb q3 q2 ho
      (repeat' (first | (simp only [↓s_reg, ↓s_nil, ↓s_consN, ↓s_thenN, ↓s_inN, ↓s_kret, ↓s_putS, ↓s_putN, ↓s_dOkS, ↓s_dOkN, ↓s_ev_t, ↓s_ev_c, ↓s_upd, ↓s_move, ↓s_store, ↓s_bin, ↓s_fieldAddr, ↓s_bin_add, ptrV, List.length_cons, List.length_nil, List.cons_append, List.nil_append, ite_true, ite_false, Nat.reduceEqDiff, Nat.reduceLT, Nat.reduceAdd, ne_eq, not_false_eq_true, true_and, Nat.succ_ne_self, setAt, List.all_cons, List.all_nil, Bool.and_self, eq_self, Nat.zero_add, List.set_cons_zero, List.set_cons_succ, Nat.le_refl, n_faP, n_faA, n_stP, n_stA, flT_57_2, szT_55, *]) | (with_reducible refine And.intro ?_ ?_)))
      all_goals rw [wrap_ok (n := (i : Int) + 1) (by omega) (by omega)]
      · rw [← pa_take hlt] at hb2
        exact ⟨i + 1, v', _, by omega, rfl, hb2⟩
      · omega
    · rename_i hlt
      have hin : i = e.kids.length := by omega
      subst hin
      rw [List.take_of_length_le (Nat.le_refl _)] at hb
      have hc1 := hb.own.cells.1
      have hc2 := hb.own.cells.2
      unfold c17_1
      (repeat' (first | (simp only [↓s_reg, ↓s_seq, ↓s_ret, ↓s_nil, ↓s_consN, ↓s_thenN, ↓s_kret, ↓s_putS, ↓s_putN, ↓s_dOkS, ↓s_dOkN, ↓s_ev_t, ↓s_upd, ↓s_load, ↓s_store, ptrV, List.length_cons, List.length_nil, List.cons_append, List.nil_append, ite_true, ite_false, Nat.reduceEqDiff, Nat.reduceLT, Nat.reduceAdd, true_and, setAt, List.all_cons, List.all_nil, Bool.and_self, eq_self, Nat.zero_add, List.drop, ldV_t3, on_bool, on_str, cl_agg, List.set_cons_zero, List.set_cons_succ, Nat.le_refl, n_ldP, n_ldA, n_ldB, n_stP, n_stA, ldT_57, szT_57, *])))
      refine ret_cell ldT_57 (by simp only [s_upd, Nat.reduceEqDiff, if_false, *]; rfl) (AH.set_same _ _ _) (by rw [List.drop_zero]; exact ldV_t3 _ _ _ _) ?_
      exact ⟨_, rfl, GhV.agg (hb.ret n2'.2 _)⟩
end Go.PV.Ytglpmlbbaedbiaa
end
section
/- More nodes; lists of expressions; equal expressions; names. -/
set_option linter.unusedVariables false
set_option linter.unusedSimpArgs false
set_option maxRecDepth 20000
set_option maxHeartbeats 4000000
namespace Go.PV.Ytglpmlbbaedbiaa
open Go Go.Proofs
/-! ### EqualFunc -/
def eqL {α β : Type} (p : α → β → Bool) : List α → List β → Bool
  | [], [] => true
  | a :: l, b :: m => p a b && eqL p l m
  | _, _ => false
theorem eqL_len {α β : Type} {p : α → β → Bool} : ∀ {l : List α} {m : List β}, eqL p l m = true → l.length = m.length
  | [], [], _ => rfl
  | a :: l, b :: m, h => by
    simp only [eqL, Bool.and_eq_true] at h
    simp [eqL_len h.2]
theorem eqL_ne {α β : Type} {p : α → β → Bool} {l : List α} {m : List β} (h : ¬ l.length = m.length) : eqL p l m = false := by
  cases he : eqL p l m with
  | false => rfl
  | true => exact absurd (eqL_len he) h
theorem eqL_drop {α β : Type} {p : α → β → Bool} {l : List α} {m : List β} {i : Nat} (h : i < l.length) (h' : i < m.length) : eqL p (l.drop i) (m.drop i) = (p l[i] m[i] && eqL p (l.drop (i + 1)) (m.drop (i + 1))) := by
  rw [List.drop_eq_getElem_cons h, List.drop_eq_getElem_cons h', eqL]
mutual
def Ex.beq : Ex → Ex → Bool
  | .mk o n k, .mk o' n' k' => decide (o = o') && decide (n = n') && exsBeq k k'
def exsBeq : List Ex → List Ex → Bool
  | [], [] => true
  | a :: l, b :: m => a.beq b && exsBeq l m
  | _, _ => false
end
theorem exsBeq_eq : ∀ (l m : List Ex), exsBeq l m = eqL Ex.beq l m
  | [], [] => rfl
  | a :: l, b :: m => by rw [exsBeq, eqL, exsBeq_eq l m]
  | [], b :: m => rfl
  | a :: l, [] => rfl
mutual
theorem Ex.beq_iff : ∀ (a b : Ex), a.beq b = true ↔ a = b
  | .mk o n k, .mk o' n' k' => by
    simp only [Ex.beq, Bool.and_eq_true, decide_eq_true_eq, exsBeq_iff k k', Ex.mk.injEq, and_assoc]
theorem exsBeq_iff : ∀ (l m : List Ex), exsBeq l m = true ↔ l = m
  | [], [] => by simp [exsBeq]
  | a :: l, b :: m => by simp only [exsBeq, Bool.and_eq_true, Ex.beq_iff a b, exsBeq_iff l m, List.cons.injEq]
  | [], b :: m => by simp [exsBeq]
  | a :: l, [] => by simp [exsBeq]
end
theorem Ex.beq_eq (a b : Ex) : a.beq b = (decide (a.op = b.op) && decide (a.name = b.name) && eqL Ex.beq a.kids b.kids) := by
  cases a; cases b; rw [Ex.beq, exsBeq_eq]; rfl
/-! ### Lists of expressions -/
theorem exprs_ok (l : List Ex) (hl : l.length ≤ 1099511627776) (hs : ∀ e ∈ l, e.sz ≤ 1099511627776) : PureF Try.prog 12 [exsV l] (exsV l) := by
  have ih' : ∀ i (h : i < l.length), PureF Try.prog 18 [exV l[i]] (exV l[i]) := fun i h => copyE_ok _ (hs _ (List.getElem_mem h))
  refine GivesF.pure fun H => ?_
  refine vcalls_intro fd12 (by simp) ?_
  unfold c12
  (repeat' (first | (simp only [↓s_reg, ↓s_seq, ↓s_seqL, ↓s_block, ↓s_loop, ↓s_nil, ↓s_consN, ↓s_thenN, ↓s_kret, ↓s_putS, ↓s_dOkS, ↓s_ev_t, ↓s_ev_c, ↓s_upd, ↓s_move, ↓s_assign, ↓s_callB, ↓s_len, intV, List.map_cons, List.map_nil, List.getD_cons_zero, List.getD_cons_succ, List.getD_nil, ite_true, ite_false, Nat.reduceEqDiff, Nat.reduceLT, ne_eq, not_false_eq_true, true_and, reduceCtorEq, undefV, eq_self, n_lenS, undef, elT_25, *])))
  refine acx_loop (fun _ _ _ h => h) (fun A H' => A.d = [] ∧ A.t 6 = exsV l ∧ A.t 7 = iV l.length ∧ ∃ (i : Nat) (Hb : AH), i ≤ l.length ∧ A.t 8 = iV i ∧ SubH H Hb ∧ OwnX Hb H' 34 3 (A.t 3) i (encC exE (l.take i)))
    (fun A _ => match A.t 8 with | .lit (.int _ i) => ((l.length : Int) - i).toNat | _ => 0) ?_ ?_
  · exact ⟨rfl, rfl, rfl, 0, _, by omega, rfl, SubH.refl _, OwnX.nil _ _ _⟩
  · rintro ⟨t, d⟩ H' ⟨rfl, h6, h7, i, Hb, hi, h8, hs', ho⟩
    dsimp only at h6 h7 h8 ho
    unfold b12_1
    (repeat' (first | (simp only [↓s_skip, ↓s_reg, ↓s_seq, ↓s_cond, ↓s_block, ↓s_exit, ↓s_nil, ↓s_consN, ↓s_thenN, ↓s_thenE, ↓s_inE, ↓s_kret, ↓s_putS, ↓s_putN, ↓s_dOkS, ↓s_dOkN, ↓s_ev_t, ↓s_ev_f, ↓s_upd, ↓s_move, ↓s_load, ↓s_store, ↓s_bin, ↓s_alloc, ↓s_buildSlice, ↓s_indexAddr, ↓s_callB, ↓s_callV, ↓s_callL, ↓s_append, ↓s_bin_lss, ptrV, List.map_cons, List.map_nil, List.length_cons, List.length_nil, List.append_nil, ite_true, ite_false, Nat.reduceEqDiff, Nat.reduceLT, Nat.reduceAdd, Nat.reduceMul, Nat.reduceLeDiff, true_and, Nat.succ_ne_self, decide_true, decide_false, Int.natCast_nonneg, Int.toNat_natCast, AH.get, AH.set_set, fillV, setAt, List.all_cons, List.all_nil, Bool.and_self, eq_self, Nat.zero_add, List.drop, and_self, ldV_t3, Int.ofNat_lt, on_int, on_str, cl_agg, on_slice, List.set_cons_zero, List.set_cons_succ, ↓n_alloc, n_allocS, Nat.le_refl, n_ldI, n_ldP, n_ixS, n_ixA1, n_ldA, n_ldC, n_ldB, n_stP, n_stA, vcBuildSlice, List.replicate_succ, List.replicate_zero, List.flatten_cons, List.flatten_nil, ex_drop, vcBuildSlice, ldT_28, szT_28, zeroT_28, elT_25, elT_32, zeroT_34, en_18, *]) | (refine condL_splitD ?_ ?_ <;> intro) | (refine acx_go rfl (fun _ _ _ h => h) ?_) | (refine allNew_intro fun zr zh => ?_; have zg := zh; (try simp only [AH.set_none] at zg)) | (refine PureF.use (ih' _ (by assumption)) ?_)))
    · rename_i hlt
      refine append_one elT_32 zeroT_34 rfl (by omega) (ho.alloc zh _) rfl rfl (by omega) (by omega) (fun v' H'' ho2 => ?_)
      rw [← ex_take hlt] at ho2
      (repeat' (first | (simp only [↓s_reg, ↓s_nil, ↓s_consN, ↓s_thenN, ↓s_inN, ↓s_kret, ↓s_putS, ↓s_dOkS, ↓s_ev_t, ↓s_ev_c, ↓s_upd, ↓s_move, ↓s_assign, ↓s_bin, ↓s_bin_add, ite_true, ite_false, Nat.reduceEqDiff, Nat.reduceLT, true_and, Nat.succ_ne_self, eq_self, *]) | (with_reducible refine And.intro ?_ ?_)))
      all_goals rw [wrap_ok (n := (i : Int) + 1) (by omega) (by omega)]
      · exact ⟨i + 1, _, by omega, rfl, hs'.of_set (hs'.none (ho.sub.none zh)), ho2⟩
      · omega
    · have hin : i = l.length := by omega
      subst hin
      rw [List.take_of_length_le (Nat.le_refl _)] at ho
      unfold c12_1
      (repeat' (first | (simp only [↓s_reg, ↓s_seq, ↓s_ret, ↓s_nil, ↓s_consN, ↓s_thenN, ↓s_putS, ↓s_dOkS, ↓s_ev_t, ↓s_upd, ↓s_move, ↓s_assign, ite_true, ite_false, Nat.reduceEqDiff, Nat.reduceLT, true_and, eq_self, *]) | (refine ret_tmp ?_)))
      exact ⟨_, rfl, GhV.back ho hs'⟩
end Go.PV.Ytglpmlbbaedbiaa
end
section
/- A function's nodes; a function, copied. -/
set_option linter.unusedVariables false
set_option linter.unusedSimpArgs false
set_option maxRecDepth 20000
set_option maxHeartbeats 4000000
namespace Go.PV.Ytglpmlbbaedbiaa
open Go Go.Proofs
theorem clsSz_drop {l : List Cl} {i : Nat} (h : i < l.length) : clsSz (l.drop i) = clSz l[i] + clsSz (l.drop (i + 1)) := by
  unfold clsSz; rw [List.drop_eq_getElem_cons h, List.map_cons, List.sum_cons]
theorem fnodes_ok (f : Fu) (hs : fuSz f ≤ 1099511627776) : PureF Try.prog 7 [fuV f] (iV (fuSz f)) := by
  have hl : f.cls.length ≤ clsSz f.cls := sum_len clSz_pos f.cls
  obtain ⟨N, hN, hNs, hlN⟩ : ∃ N, fuSz f = N ∧ N ≤ 1099511627776 ∧ f.cls.length ≤ N := ⟨_, rfl, hs, by unfold fuSz; omega⟩
  have h0 : 1 + clsSz f.cls = N := by rw [← hN]; rfl
  have hc : ∀ i (h : i < f.cls.length), clSz f.cls[i] ≤ N := fun i h => by have := sum_mem (f := clSz) (List.getElem_mem h); unfold clsSz at h0; omega
  rw [hN]
  clear hs hl hN
  refine PureF.forget fun H => ?_
  refine vcalls_intro fd7 (by simp) ?_
  unfold c7
  (repeat' (first | (simp only [↓s_reg, ↓s_seq, ↓s_seqL, ↓s_block, ↓s_loop, ↓s_nil, ↓s_consN, ↓s_thenN, ↓s_kret, ↓s_putS, ↓s_dOkS, ↓s_ev_t, ↓s_ev_c, ↓s_upd, ↓s_move, ↓s_assign, ↓s_load, ↓s_box, ↓s_fieldAddr, ↓s_callB, ↓s_len, ptrV, intV, List.map_cons, List.map_nil, List.getD_cons_zero, List.getD_cons_succ, List.getD_nil, ite_true, ite_false, Nat.reduceEqDiff, Nat.reduceLT, ne_eq, not_false_eq_true, true_and, Nat.succ_ne_self, reduceCtorEq, undefV, AH.get, eq_self, Nat.zero_add, List.drop, ldV_f, cl_agg, ↓n_box, n_ldP, n_faP, n_lenS, n_ldA, n_ldB, n_faA, undef, flT_24_2, ldT_22, elT_22, *]) | (refine allNew_intro fun zr zh => ?_; have zg := zh; (try simp only [AH.set_none] at zg))))
  refine acx_loop (fun _ _ _ h => h) (fun A H' => SubH H H' ∧ A.d = [] ∧ A.t 11 = clsV f.cls ∧ A.t 12 = iV f.cls.length ∧ ∃ (i n : Nat), i ≤ f.cls.length ∧ A.t 13 = iV i ∧ A.t 3 = iV n ∧ n + clsSz (f.cls.drop i) = N)
    (fun A _ => match A.t 13 with | .lit (.int _ i) => ((f.cls.length : Int) - i).toNat | _ => 0) ?_ ?_
  · exact ⟨SubH.new zh, rfl, rfl, rfl, 0, 1, by omega, rfl, rfl, h0⟩
  · clear h0
    rintro ⟨t, d⟩ H' ⟨hs', rfl, h11, h12, i, n, hi, h13, h3, hn⟩
    dsimp only at h11 h12 h13 h3
    unfold b7_2
    have hb : ∀ i (h : i < f.cls.length), PureF Try.prog 8 [exV f.cls[i].body] (.tuple [iV f.cls[i].body.sz, iV f.cls[i].body.dp]) := fun i h => nodes_ok _ (by have := hc i h; unfold clSz at this; omega)
    (repeat' (first | (simp only [↓s_skip, ↓s_reg, ↓s_seq, ↓s_seqL, ↓s_cond, ↓s_block, ↓s_exit, ↓s_loop, ↓s_nil, ↓s_consN, ↓s_thenN, ↓s_thenE, ↓s_inE, ↓s_kret, ↓s_putS, ↓s_putN, ↓s_dOkS, ↓s_dOkN, ↓s_ev_t, ↓s_ev_c, ↓s_ev_f, ↓s_upd, ↓s_move, ↓s_assign, ↓s_load, ↓s_store, ↓s_bin, ↓s_alloc, ↓s_fieldAddr, ↓s_indexAddr, ↓s_extract, ↓s_callB, ↓s_callV, ↓s_callL, ↓s_len, ↓s_bin_lss, ↓s_bin_add, vcExtract, ptrV, intV, List.map_cons, List.map_nil, List.length_cons, List.length_nil, ite_true, ite_false, Nat.reduceEqDiff, Nat.reduceLT, Nat.reduceAdd, ne_eq, not_false_eq_true, true_and, Nat.succ_ne_self, decide_true, decide_false, reduceCtorEq, Int.natCast_nonneg, Int.toNat_natCast, AH.get, AH.set_set, setAt, List.all_cons, List.all_nil, Bool.and_self, eq_self, Nat.zero_add, Nat.add_zero, List.drop, and_self, List.getElem?_cons_zero, List.getElem?_cons_succ, ldV_f, ldV_t3, ldV_t4, Int.ofNat_lt, on_int, on_str, cl_agg, on_slice, List.set_cons_zero, List.set_cons_succ, ↓n_alloc, n_allocS, Nat.le_refl, n_ldI, n_ldP, n_faP, n_ixS, n_ixA1, n_lenS, n_ldA, n_ldC, n_ldB, n_faA, n_stP, n_stA, cl_drop, flT_46_1, flT_46_0, ldT_46, ldT_28, ldT_44, szT_46, zeroT_46, elT_44, elT_22, en_8, *]) | (refine condL_splitD ?_ ?_ <;> intro) | (refine acx_go rfl (fun _ _ _ h => h) ?_) | (refine allNew_intro fun zr zh => ?_; have zg := zh; (try simp only [AH.set_none] at zg)) | (refine PureF.use (hb _ (by assumption)) ?_)))
    · rename_i hlt _
      have hlt : i < f.cls.length := by assumption
      have e1 := clsSz_drop hlt
      have e2 := hc i hlt
      have e3 : clSz f.cls[i] = 1 + pasSz f.cls[i].pats + f.cls[i].body.sz := rfl
      have e4 := pasSz_len f.cls[i].pats
      have hp : ∀ k (h : k < f.cls[i].pats.length), PureF Try.prog 15 [paV f.cls[i].pats[k]] (iV f.cls[i].pats[k].sz) := fun k h => pnodes_ok _ (by have := pasSz_mem (List.getElem_mem h); omega)
      rw [wrap_ok (n := 1 + (f.cls[i].body.sz : Int)) (by omega) (by omega), wrap_ok (n := (n : Int) + (1 + (f.cls[i].body.sz : Int))) (by omega) (by omega)]
      refine acx_loop (fun _ _ _ h => h) (fun A H' => SubH H H' ∧ A.d = [] ∧ A.t 11 = clsV f.cls ∧ A.t 12 = iV f.cls.length ∧ A.t 13 = iV i ∧ A.t 28 = pasV f.cls[i].pats ∧ A.t 29 = iV f.cls[i].pats.length ∧ ∃ (k m : Nat), k ≤ f.cls[i].pats.length ∧ A.t 30 = iV k ∧ A.t 3 = iV m ∧ m + pasSz (f.cls[i].pats.drop k) = n + clSz f.cls[i])
        (fun A _ => match A.t 30 with | .lit (.int _ k) => ((f.cls[i].pats.length : Int) - k).toNat | _ => 0) ?_ ?_
      · exact ⟨hs'.of_set (hs'.none zh), rfl, (by simp only [s_upd, Nat.reduceEqDiff, if_false, *] <;> rfl), (by simp only [s_upd, Nat.reduceEqDiff, if_false, *] <;> rfl), (by simp only [s_upd, Nat.reduceEqDiff, if_false, *] <;> rfl), (by simp only [s_upd, Nat.reduceEqDiff, if_true, if_false, *] <;> rfl), (by simp only [s_upd, Nat.reduceEqDiff, if_true, if_false, *] <;> rfl), 0, n + (1 + f.cls[i].body.sz), by omega, (by simp only [s_upd, Nat.reduceEqDiff, if_true, if_false, *] <;> rfl), by simp [s_upd], by rw [e3]; simp only [List.drop_zero]; omega⟩
      · clear h11 h12 h13 h3 hb
        rintro ⟨t, d⟩ H' ⟨hs', rfl, h11, h12, h13, h28, h29, k, m, hk, h30, h3, hm⟩
        dsimp only at h11 h12 h13 h28 h29 h30 h3
        unfold b7_1
        (repeat' (first | (simp only [↓s_skip, ↓s_reg, ↓s_seq, ↓s_cond, ↓s_block, ↓s_exit, ↓s_nil, ↓s_consN, ↓s_thenN, ↓s_thenE, ↓s_inN, ↓s_inE, ↓s_kret, ↓s_putS, ↓s_putN, ↓s_dOkS, ↓s_dOkN, ↓s_ev_t, ↓s_ev_c, ↓s_ev_f, ↓s_upd, ↓s_move, ↓s_assign, ↓s_load, ↓s_store, ↓s_bin, ↓s_alloc, ↓s_indexAddr, ↓s_callV, ↓s_callL, ↓s_bin_lss, ↓s_bin_add, ptrV, List.map_cons, List.map_nil, List.length_cons, List.length_nil, ite_true, ite_false, Nat.reduceEqDiff, Nat.reduceLT, Nat.reduceAdd, true_and, Nat.succ_ne_self, decide_true, decide_false, reduceCtorEq, Int.natCast_nonneg, Int.toNat_natCast, AH.get, AH.set_set, setAt, List.all_cons, List.all_nil, Bool.and_self, eq_self, Nat.zero_add, List.drop, and_self, ldV_t3, Int.ofNat_lt, on_bool, on_str, cl_agg, on_slice, List.set_cons_zero, List.set_cons_succ, ↓n_alloc, n_allocS, Nat.le_refl, n_ldI, n_ldP, n_ixS, n_ixA1, n_ldA, n_ldC, n_ldB, n_stP, n_stA, pa_drop, ldT_50, szT_50, zeroT_50, elT_44, en_15, *]) | (refine condL_splitD ?_ ?_ <;> intro) | (refine acx_go rfl (fun _ _ _ h => h) ?_) | (refine allNew_intro fun zr zh => ?_; have zg := zh; (try simp only [AH.set_none] at zg)) | (refine SubH.of_set ?_ ?_) | (exact SubH.none (by assumption) (by assumption)) | (refine PureF.use (hp _ (by assumption)) ?_) | (with_reducible refine And.intro ?_ ?_)))
        · have hk2 : k < f.cls[i].pats.length := by assumption
          have e5 := pasSz_drop hk2
          rw [wrap_ok (n := (k : Int) + 1) (by omega) (by omega), wrap_ok (n := (m : Int) + (f.cls[i].pats[k].sz : Int)) (by omega) (by omega)]
          exact ⟨k + 1, m + f.cls[i].pats[k].sz, by omega, rfl, by simp, by omega⟩
        · rw [wrap_ok (n := (k : Int) + 1) (by omega) (by omega)]
          omega
        · unfold c7_1
          rw [List.drop_eq_nil_of_le (by omega)] at hm
          simp only [pasSz, Nat.add_zero] at hm
          clear h30
          (repeat' (first | (simp only [↓s_reg, ↓s_nil, ↓s_consN, ↓s_thenN, ↓s_kret, ↓s_putS, ↓s_dOkS, ↓s_ev_t, ↓s_ev_c, ↓s_upd, ↓s_move, ↓s_bin, ↓s_bin_add, ite_true, ite_false, Nat.reduceEqDiff, Nat.reduceLT, true_and, eq_self, *]) | (with_reducible refine And.intro ?_ ?_)))
          · rw [wrap_ok (n := (i : Int) + 1) (by omega) (by omega)]
            exact ⟨i + 1, _, by omega, rfl, rfl, by omega⟩
          · rw [wrap_ok (n := (i : Int) + 1) (by omega) (by omega)]
            omega
    · rw [List.drop_eq_nil_of_le (by omega)] at hn
      unfold c7_2
      have hn' : N = n := by simpa [clsSz] using hn.symm
      subst hn'
      (repeat' (first | (simp only [↓s_reg, ↓s_seq, ↓s_ret, ↓s_nil, ↓s_consN, ↓s_thenN, ↓s_putS, ↓s_dOkS, ↓s_ev_t, ↓s_upd, ↓s_move, ↓s_assign, ite_true, ite_false, Nat.reduceEqDiff, Nat.reduceLT, true_and, eq_self, and_self, *]) | (refine ret_tmp ?_)))
/-! ### Copying a function -/
theorem cl_take {l : List Cl} {i : Nat} (h : i < l.length) : encC clE (l.take (i + 1)) = encC clE (l.take i) ++ [pasV l[i].pats, iV l[i].body.op, sV l[i].body.name, encS exE l[i].body.kids] := by
  rw [take_snoc h, encC_append]; rfl
theorem fun_ok (f : Fu) (hs : fuSz f ≤ 1099511627776) : PureF Try.prog 11 [fuV f] (fuV f) := by
  have hl : f.cls.length ≤ clsSz f.cls := sum_len clSz_pos f.cls
  have hN : f.cls.length ≤ 1099511627776 := by unfold fuSz at hs; omega
  have hc : ∀ i (h : i < f.cls.length), clSz f.cls[i] ≤ 1099511627776 := fun i h => by have := sum_mem (f := clSz) (List.getElem_mem h); unfold fuSz clsSz at hs; omega
  have hb : ∀ i (h : i < f.cls.length), PureF Try.prog 18 [exV f.cls[i].body] (exV f.cls[i].body) := fun i h => copyE_ok _ (by have := hc i h; unfold clSz at this; omega)
  have hp : ∀ i (h : i < f.cls.length) k (h' : k < f.cls[i].pats.length), PureF Try.prog 17 [paV f.cls[i].pats[k]] (paV f.cls[i].pats[k]) := fun i h k h' => copyP_ok _ (by have h1 := hc i h; have h2 := pasSz_mem (List.getElem_mem h'); unfold clSz at h1; omega)
  have hpl : ∀ i (h : i < f.cls.length), f.cls[i].pats.length ≤ 1099511627776 := fun i h => by have h1 := hc i h; have h2 := pasSz_len f.cls[i].pats; unfold clSz at h1; omega
  clear hs hl hc
  refine GivesF.pure fun H0 => ?_
  refine vcalls_intro fd11 (by simp) ?_
  unfold c11
  (repeat' (first | (simp only [↓s_reg, ↓s_seq, ↓s_seqL, ↓s_block, ↓s_loop, ↓s_nil, ↓s_consN, ↓s_thenN, ↓s_kret, ↓s_putS, ↓s_putN, ↓s_dOkS, ↓s_dOkN, ↓s_ev_t, ↓s_ev_c, ↓s_upd, ↓s_move, ↓s_load, ↓s_store, ↓s_alloc, ↓s_box, ↓s_build, ↓s_fieldAddr, ↓s_callB, ↓s_len, ptrV, intV, List.map_cons, List.map_nil, List.length_cons, List.length_nil, List.getD_cons_zero, List.getD_cons_succ, List.getD_nil, ite_true, ite_false, Nat.reduceEqDiff, Nat.reduceLT, Nat.reduceAdd, Nat.reduceLeDiff, ne_eq, not_false_eq_true, true_and, Nat.succ_ne_self, reduceCtorEq, undefV, AH.get, AH.set_set, vcBuild, fillV, setAt, List.all_cons, List.all_nil, Bool.and_self, eq_self, Nat.zero_add, Nat.add_zero, List.drop, and_self, List.getElem?_cons_zero, List.getElem?_cons_succ, ldV_f, cl_int, on_int, cl_str, on_str, on_sl, cl_agg, List.set_cons_zero, List.set_cons_succ, ↓n_alloc, n_allocS, ↓n_box, Nat.le_refl, n_ldP, n_faP, n_lenS, n_ldA, n_ldB, n_faA, n_stP, n_stA, undef, flT_24_0, flT_24_1, flT_24_2, ldT_9, ldT_3, ldT_22, szT_40, stT_40, zeroT_40, elT_22, *]) | (refine allNew_intro fun zr zh => ?_; have zg := zh; (try simp only [AH.set_none] at zg))))
  rename_i r1 n1 n1' r2 n2 n2'
  obtain ⟨⟨d32, d23⟩, ⟨d31, d13⟩, n3⟩ := zg
  obtain ⟨⟨d21, d12⟩, n2''⟩ := n2'
  have hb0 : InB (H0.set r2 (.cells 40 [.lit (.string { data := #[] }), .lit (.int .i64 0), .lit (.slice none 0 0)] 0)) (((H0.set r1 (.cells 24 (fuE f) 0)).set r2 (.cells 40 [.lit (.string { data := #[] }), .lit (.int .i64 0), .lit (.slice none 0 0)] 0)).set zr (.cells 40 [sV f.name, iV f.arity, .lit (.slice none 0 0)] 0)) zr 40 [sV f.name, iV f.arity] [] 93 4 0 [] (.lit (.slice none 0 0)) _ :=
    InB.start (AH.set_same _ _ _) (((SubH.new n1).set _ _).trans (SubH.new zh)) (by simp only [AH.get, *, if_false])
  generalize hH1 : ((H0.set r1 (.cells 24 (fuE f) 0)).set r2 (.cells 40 [.lit (.string { data := #[] }), .lit (.int .i64 0), .lit (.slice none 0 0)] 0)).set zr (.cells 40 [sV f.name, iV f.arity, .lit (.slice none 0 0)] 0) = H1 at hb0
  refine acx_loop (fun _ _ _ h => h) (fun A H => A.d = [] ∧ A.t 2 = ptrV r2 0 ∧ A.t 3 = ptrV zr 0 ∧ A.t 15 = clsV f.cls ∧ A.t 16 = iV f.cls.length ∧ ∃ (i : Nat) (v : VV) (Hb : AH), i ≤ f.cls.length ∧ A.t 17 = iV i ∧ InB (H0.set r2 (.cells 40 [.lit (.string { data := #[] }), .lit (.int .i64 0), .lit (.slice none 0 0)] 0)) H zr 40 [sV f.name, iV f.arity] [] 93 4 i (encC clE (f.cls.take i)) v Hb)
    (fun A _ => match A.t 17 with | .lit (.int _ i) => ((f.cls.length : Int) - i).toNat | _ => 0) ?_ ?_
  · exact ⟨rfl, rfl, rfl, rfl, rfl, 0, _, _, by omega, rfl, hb0⟩
  · clear hb0 hH1 n2 zh
    rintro ⟨t, d⟩ H ⟨rfl, h2, h3, h15, h16, i, v, Hb, hi, h17, hbl⟩
    dsimp only at h2 h3 h15 h16 h17
    have q3 := hbl.at
    have q2 := hbl.cell2
    unfold b11_2
    (repeat' (first | (simp only [↓s_skip, ↓s_reg, ↓s_seq, ↓s_seqL, ↓s_cond, ↓s_block, ↓s_exit, ↓s_loop, ↓s_nil, ↓s_consN, ↓s_thenN, ↓s_thenE, ↓s_inE, ↓s_kret, ↓s_putS, ↓s_putN, ↓s_dOkS, ↓s_dOkN, ↓s_ev_t, ↓s_ev_c, ↓s_ev_f, ↓s_upd, ↓s_move, ↓s_load, ↓s_store, ↓s_bin, ↓s_alloc, ↓s_build, ↓s_fieldAddr, ↓s_indexAddr, ↓s_callB, ↓s_callV, ↓s_callL, ↓s_len, ↓s_bin_lss, ptrV, intV, List.map_cons, List.map_nil, List.length_cons, List.length_nil, ite_true, ite_false, Nat.reduceEqDiff, Nat.reduceLT, Nat.reduceAdd, ne_eq, not_false_eq_true, true_and, Nat.succ_ne_self, decide_true, decide_false, reduceCtorEq, Int.natCast_nonneg, Int.toNat_natCast, AH.get, AH.set_set, vcBuild, fillV, setAt, List.all_cons, List.all_nil, Bool.and_self, eq_self, Nat.zero_add, Nat.add_zero, List.drop, and_self, List.getElem?_cons_zero, List.getElem?_cons_succ, ldV_f, ldV_t3, ldV_t4, Int.ofNat_lt, on_int, on_str, on_sl, cl_agg, on_slice, List.set_cons_zero, List.set_cons_succ, ↓n_alloc, n_allocS, Nat.le_refl, n_ldI, n_ldP, n_faP, n_ixS, n_ixA1, n_lenS, n_ldA, n_ldC, n_ldB, n_faA, n_stP, n_stA, cl_drop, flT_46_1, flT_46_0, ldT_46, ldT_28, ldT_44, szT_46, szT_93, stT_93, zeroT_46, zeroT_93, elT_44, elT_22, en_18, *]) | (refine condL_splitD ?_ ?_ <;> intro) | (refine acx_go rfl (fun _ _ _ h => h) ?_) | (refine allNew_intro fun zr zh => ?_; have zg := zh; (try simp only [AH.set_none] at zg); (try have zn_q2 := AH.ne_of q2 zh); (try have zn_q2 := AH.ne_of q2 zg.2); (try have zn_q2 := AH.ne_of q2 zg.2.2); (try have zn_q3 := AH.ne_of q3 zh); (try have zn_q3 := AH.ne_of q3 zg.2); (try have zn_q3 := AH.ne_of q3 zg.2.2)) | (refine PureF.use (hb _ (by assumption)) ?_)))
    · have hlt : i < f.cls.length := by assumption
      rename_i r5 n5 n5' e25 e35
      have hb5 := hbl.alloc n5 (.cells 46 [pasV f.cls[i].pats, iV f.cls[i].body.op, sV f.cls[i].body.name, exsV f.cls[i].body.kids] 0)
      obtain ⟨X, hX⟩ : ∃ X, X = H.set r5 (.cells 46 [pasV f.cls[i].pats, iV f.cls[i].body.op, sV f.cls[i].body.name, exsV f.cls[i].body.kids] 0) := ⟨_, rfl⟩
      rw [← hX] at zh hb5
      rw [← hX]
      clear hX n5 n5' q2 q3 hbl
      have hin : InB X (X.set zr (.cells 93 [.lit (.slice none 0 0), iV f.cls[i].body.op, sV f.cls[i].body.name, encS exE f.cls[i].body.kids] 0)) zr 93 [] [iV f.cls[i].body.op, sV f.cls[i].body.name, encS exE f.cls[i].body.kids] 57 3 0 [] (.lit (.slice none 0 0)) _ :=
        InB.start (AH.set_same _ _ _) (SubH.new zh) zh
      have hpl' := hpl i hlt
      have hp' := hp i hlt
      refine acx_loop (fun _ _ _ h => h) (fun A H' => A.d = [] ∧ A.t 2 = ptrV r2 0 ∧ A.t 3 = t 3 ∧ A.t 15 = clsV f.cls ∧ A.t 16 = iV f.cls.length ∧ A.t 17 = iV i ∧ A.t 6 = ptrV zr 0 ∧ A.t 26 = pasV f.cls[i].pats ∧ A.t 27 = iV f.cls[i].pats.length ∧ ∃ (k : Nat) (w : VV) (Hc : AH), k ≤ f.cls[i].pats.length ∧ A.t 28 = iV k ∧
          InB X H' zr 93 [] [iV f.cls[i].body.op, sV f.cls[i].body.name, encS exE f.cls[i].body.kids] 57 3 k (encC paE (f.cls[i].pats.take k)) w Hc)
        (fun A _ => match A.t 28 with | .lit (.int _ k) => ((f.cls[i].pats.length : Int) - k).toNat | _ => 0) ?_ ?_
      · exact ⟨rfl, (by simp only [s_upd, Nat.reduceEqDiff, if_false, *] <;> rfl), (by simp only [s_upd, Nat.reduceEqDiff, if_false, *] <;> rfl), (by simp only [s_upd, Nat.reduceEqDiff, if_false, *] <;> rfl), (by simp only [s_upd, Nat.reduceEqDiff, if_false, *] <;> rfl), (by simp only [s_upd, Nat.reduceEqDiff, if_false, *] <;> rfl), (by simp only [s_upd, Nat.reduceEqDiff, if_true, if_false, *] <;> rfl), (by simp only [s_upd, Nat.reduceEqDiff, if_true, if_false, *] <;> rfl), (by simp only [s_upd, Nat.reduceEqDiff, if_true, if_false, *] <;> rfl), 0, _, _, by omega, (by simp only [s_upd, Nat.reduceEqDiff, if_true, if_false, *] <;> rfl), hin⟩
      · rw [h3]
        clear hin h2 h3 h15 h16 h17 hb hp hpl
        rintro ⟨t, d⟩ H' ⟨rfl, h2, h3, h15, h16, h17, h6, h26, h27, k, w, Hc, hk, h28, hi2⟩
        dsimp only at h2 h3 h15 h16 h17 h6 h26 h27 h28
        have q6 := hi2.at
        unfold b11_1
        (repeat' (first | (simp only [↓s_skip, ↓s_reg, ↓s_seq, ↓s_cond, ↓s_block, ↓s_exit, ↓s_dreg, ↓s_nil, ↓s_consN, ↓s_thenN, ↓s_thenE, ↓s_inE, ↓s_kret, ↓s_putS, ↓s_putN, ↓s_dOkS, ↓s_dOkN, ↓s_ev_t, ↓s_ev_f, ↓s_upd, ↓s_load, ↓s_store, ↓s_bin, ↓s_alloc, ↓s_buildSlice, ↓s_fieldAddr, ↓s_indexAddr, ↓s_callB, ↓s_callV, ↓s_callL, ↓s_append, ↓s_bin_lss, ptrV, List.map_cons, List.map_nil, List.length_cons, List.length_nil, List.nil_append, List.append_nil, ite_true, ite_false, Nat.reduceEqDiff, Nat.reduceLT, Nat.reduceAdd, Nat.reduceMul, Nat.reduceLeDiff, ne_eq, not_false_eq_true, true_and, Nat.succ_ne_self, decide_true, decide_false, reduceCtorEq, Int.natCast_nonneg, Int.toNat_natCast, ↓s_plFin, ↓s_plTkN, ↓s_plOneN, AH.get, AH.set_set, fillV, setAt, List.all_cons, List.all_nil, Bool.and_self, eq_self, Nat.zero_add, Nat.add_zero, List.drop, and_self, ldV_f, ldV_t3, Int.ofNat_lt, on_bool, on_str, cl_agg, on_slice, List.set_cons_zero, List.set_cons_succ, ↓n_alloc, n_allocS, Nat.le_refl, n_ldI, n_ldP, n_faP, n_ixS, n_ixA1, n_ldA, n_ldC, n_ldB, n_faA, n_stP, n_stA, ↓s_plK, ↓s_oneK, vcBuildSlice, List.replicate_succ, List.replicate_zero, List.flatten_cons, List.flatten_nil, pa_drop, vcBuildSlice, flT_93_0, ldT_50, ldT_55, szT_50, zeroT_50, elT_44, elT_55, zeroT_57, en_17, *]) | (refine condL_splitD ?_ ?_ <;> intro) | (refine acx_dreg mixed (fun _ _ _ _ e h => ⟨e.trans h.1, h.2⟩) _ (SubH.refl _) ?_) | (refine allNew_intro fun zr zh => ?_; have zg := zh; (try simp only [AH.set_none] at zg); (try have zn_q6 := AH.ne_of q6 zh); (try have zn_q6 := AH.ne_of q6 zg.2); (try have zn_q6 := AH.ne_of q6 zg.2.2)) | (exact SubH.refl _) | (refine PureF.use (hp' _ (by assumption)) ?_) | (with_reducible refine And.intro ?_ ?_)))
        · have hkt : k < f.cls[i].pats.length := by assumption
          have hi3 := hi2.alloc zh (.cells 50 [bV f.cls[i].pats[k].con, sV f.cls[i].pats[k].name, encS paE f.cls[i].pats[k].kids] 0)
          refine append_one elT_55 zeroT_57 rfl (by omega) hi3.own rfl rfl (by omega) (by omega) (fun w' H'' ho => ?_)
          have hi4 := hi3.next ho
          have q6' := ho.sub _ _ hi3.blk
          have hc1 := ho.cells.1
          have hc2 := ho.cells.2
          clear hi3 hi2 q6 ho
          (repeat' (first | (simp only [↓s_reg, ↓s_nil, ↓s_consN, ↓s_thenN, ↓s_inN, ↓s_kret, ↓s_putS, ↓s_putN, ↓s_dOkS, ↓s_dOkN, ↓s_ev_t, ↓s_ev_c, ↓s_upd, ↓s_move, ↓s_store, ↓s_bin, ↓s_fieldAddr, ↓s_bin_add, ptrV, List.length_cons, List.length_nil, List.nil_append, ite_true, ite_false, Nat.reduceEqDiff, Nat.reduceLT, Nat.reduceAdd, Nat.reduceLeDiff, ne_eq, not_false_eq_true, true_and, Nat.succ_ne_self, setAt, List.all_cons, List.all_nil, Bool.and_self, eq_self, Nat.zero_add, Nat.add_zero, List.set_cons_zero, n_faP, n_faA, n_stP, n_stA, flT_93_0, szT_55, *]) | (with_reducible refine And.intro ?_ ?_)))
          all_goals rw [wrap_ok (n := (k : Int) + 1) (by omega) (by omega)]
          · rw [← pa_take hkt] at hi4
            exact ⟨k + 1, w', _, by omega, rfl, hi4⟩
          · omega
        · have hke : k = f.cls[i].pats.length := by omega
          subst hke
          rw [List.take_of_length_le (Nat.le_refl _)] at hi2
          refine acx_ghost (hi2.ghost _ _) ?_
          have hb6 := hb5.alloc hi2.new (.cells 93 (clE f.cls[i]) 0)
          have q3 := hb6.at
          have q2 := hb6.cell2
          have q6' : (X.set zr (.cells 93 (clE f.cls[i]) 0)) zr = some (.cells 93 (clE f.cls[i]) 0) := AH.set_same _ _ _
          clear hi2 q6 hb5
          show ACx _ _ _ _ (X.set zr (.cells 93 (clE f.cls[i]) 0))
          generalize X.set zr (.cells 93 (clE f.cls[i]) 0) = Y at *
          unfold c11_1
          (repeat' (first | (simp only [↓s_reg, ↓s_consN, ↓s_kret, ↓s_putS, ↓s_dOkS, ↓s_ev_t, ↓s_upd, ↓s_load, ↓s_buildSlice, ↓s_fieldAddr, ↓s_callB, ↓s_append, ptrV, List.map_cons, List.map_nil, List.length_cons, List.length_nil, List.cons_append, List.nil_append, List.append_nil, ite_true, ite_false, Nat.reduceEqDiff, Nat.reduceLT, Nat.reduceAdd, Nat.reduceMul, Nat.reduceLeDiff, ne_eq, not_false_eq_true, true_and, Nat.succ_ne_self, fillV, setAt, eq_self, Nat.zero_add, List.drop, and_self, ldV_f, ldV_t4, cl_agg, List.set_cons_zero, List.set_cons_succ, Nat.le_refl, n_ldP, n_faP, n_ldA, n_ldB, n_faA, vcBuildSlice, List.replicate_succ, List.replicate_zero, List.flatten_cons, List.flatten_nil, vcBuildSlice, flT_40_2, ldT_38, ldT_93, zeroT_93, elT_38, *]) | (refine acx_go rfl (fun _ _ _ h => h) ?_)))
          refine append_one elT_38 zeroT_93 rfl (by omega) hb6.own rfl rfl (by omega) (by omega) (fun v' H'' ho => ?_)
          have hb7 := hb6.next ho
          have q3' := ho.sub _ _ hb6.blk
          have hc1 := ho.cells.1
          have hc2 := ho.cells.2
          clear hb6 q3 q2 ho q6'
          unfold c11_2
          (repeat' (first | (simp only [↓s_reg, ↓s_nil, ↓s_consN, ↓s_thenN, ↓s_inN, ↓s_kret, ↓s_putS, ↓s_putN, ↓s_dOkS, ↓s_dOkN, ↓s_ev_t, ↓s_ev_c, ↓s_upd, ↓s_move, ↓s_store, ↓s_bin, ↓s_fieldAddr, ↓s_bin_add, ptrV, List.length_cons, List.length_nil, List.cons_append, List.nil_append, ite_true, ite_false, Nat.reduceEqDiff, Nat.reduceLT, Nat.reduceAdd, ne_eq, not_false_eq_true, true_and, Nat.succ_ne_self, setAt, List.all_cons, List.all_nil, Bool.and_self, eq_self, Nat.zero_add, List.set_cons_zero, List.set_cons_succ, Nat.le_refl, n_faP, n_faA, n_stP, n_stA, flT_40_2, szT_38, *]) | (refine acx_go rfl (fun _ _ _ h => h) ?_) | (with_reducible refine And.intro ?_ ?_)))
          all_goals rw [wrap_ok (n := (i : Int) + 1) (by omega) (by omega)]
          · rw [← cl_take hlt] at hb7
            exact ⟨i + 1, v', _, by omega, rfl, hb7⟩
          · omega
    · have hin : i = f.cls.length := by omega
      subst hin
      rw [List.take_of_length_le (Nat.le_refl _)] at hbl
      have hc1 := hbl.own.cells.1
      have hc2 := hbl.own.cells.2
      unfold c11_3
      (repeat' (first | (simp only [↓s_reg, ↓s_seq, ↓s_ret, ↓s_nil, ↓s_consN, ↓s_thenN, ↓s_kret, ↓s_putS, ↓s_putN, ↓s_dOkS, ↓s_dOkN, ↓s_ev_t, ↓s_upd, ↓s_load, ↓s_store, ptrV, List.length_cons, List.length_nil, List.cons_append, List.nil_append, ite_true, ite_false, Nat.reduceEqDiff, Nat.reduceLT, Nat.reduceAdd, true_and, setAt, List.all_cons, List.all_nil, Bool.and_self, eq_self, Nat.zero_add, List.drop, ldV_t3, on_int, on_str, cl_agg, List.set_cons_zero, List.set_cons_succ, Nat.le_refl, n_ldP, n_ldA, n_ldB, n_stP, n_stA, ldT_40, szT_40, *])))
      refine ret_cell ldT_40 (by simp only [s_upd, Nat.reduceEqDiff, if_false, *]; rfl) (AH.set_same _ _ _) (by rw [List.drop_zero]; exact ldV_t3 _ _ _ _) ?_
      exact ⟨_, rfl, GhV.agg (hbl.ret n2'' _)⟩
end Go.PV.Ytglpmlbbaedbiaa
end
section
/- Maps with strings asg keys. -/
set_option linter.unusedVariables false
set_option linter.unusedSimpArgs false
namespace Go.PV
open Go
def smap (m : ByteArray → Option VV) : Value → Option VV
  | .string s => m s
  | _ => none
def supd (m : ByteArray → Option VV) (s : ByteArray) (y : VV) : ByteArray → Option VV := fun s' => if s' = s then some y else m s'
theorem smap_set (m : ByteArray → Option VV) (s : ByteArray) (y : VV) : mset (smap m) (.string s) y = smap (supd m s y) := by
  funext k
  by_cases h : k = .string s
  · subst h; rw [mset_same]; simp [smap, supd]
  · rw [mset_ne _ _ h]
    cases k <;> simp only [smap, supd] <;> try rfl
    rename_i s'
    rw [if_neg]; rintro rfl; exact h rfl
theorem smap_nil : (fun _ => none : Value → Option VV) = smap (fun _ => none) := by funext k; cases k <;> rfl
structure StrMap (P : Program) (t : TypeId) (z : Value) : Prop where
  mt : MapT P t z
  all : ∀ s : ByteArray, s.size ≤ maxLen → keysOf P t (.string s)
section
variable {P : Program} {t : TypeId} {z : Value} {H : AH} {K : VE → AH → Prop} {r : Nat} {m : ByteArray → Option VV} {s : ByteArray}
theorem sm_lookup {ok : Bool} (h : StrMap P t z) (hz : s.size ≤ maxLen) (hr : H r = some (.map (keysOf P t) (smap m))) (hk : (∀ y, m s = some y → K (.ret (okV ok y true)) H)) (hn : m s = none → K (.ret (okV ok (.lit z) false)) H) : vcLookup P t (.lit (.map (some r))) (.lit (.string s)) ok H K := by
  refine ⟨z, h.mt, .string s, rfl, h.all s hz, ?_⟩
  simp only [hr]
  refine ⟨fun _ h => h, ?_⟩
  show (match m s with | some y => K (.ret (okV ok y true)) H | none => K (.ret (okV ok (.lit z) false)) H)
  cases hm : m s with
  | some y => exact hk y hm
  | none => exact hn hm
theorem sm_update {y : VV} (h : StrMap P t z) (hz : s.size ≤ maxLen) (hr : H r = some (.map (keysOf P t) (smap m))) (hk : K (.ret undefV) (H.set r (.map (keysOf P t) (smap (supd m s y))))) : vcUpdate P t (.lit (.map (some r))) (.lit (.string s)) y H K := by
  refine ⟨z, h.mt, .string s, rfl, h.all s hz, ?_⟩
  simp only [hr, smap_set]
  exact ⟨fun _ h => h, h.all s hz, hk⟩
theorem sm_make (hk : ∀ r, H r = none → K (.ret (.lit (.map (some r)))) (H.set r (.map (keysOf P t) (smap fun _ => none)))) : vcMakeMap P t H K := by
  intro r hr
  rw [smap_nil]
  exact hk r hr
end
theorem strMap {P : Program} {t kt et : TypeId} {z : Value} (hu : P.underlying t = some (.map kt et)) (hs : P.underlying kt = some .string) (hz : zeroV P et = some z) : StrMap P t z := by
  refine ⟨⟨kt, et, hu, Go.Maps.string_keyed hs, hz⟩, fun s hl => ?_⟩
  have : ∃ l, keyOf P kt (.string s) = some l := by
    simp only [keyOf, hs, mapKey, hl, if_true]
    exact ⟨_, rfl⟩
  obtain ⟨l, hl⟩ := this
  exact ⟨kt, et, l, hu, hl⟩
end Go.PV
end
section
/- Clone; names; a name twice. -/
set_option linter.unusedVariables false
set_option linter.unusedSimpArgs false
set_option maxRecDepth 20000
set_option maxHeartbeats 4000000
namespace Go.PV.Ytglpmlbbaedbiaa
open Go Go.Proofs
/-! ### Clone -/
theorem encC_one {α : Type} {enc : α → List VV} (h : ∀ a, (enc a).all VV.one = true) (l : List α) : (encC enc l).all VV.one = true := by
  induction l with
  | nil => rfl
  | cons x l ih => rw [encC_cons]; simp [ih, h x]
theorem src_enc {α : Type} {enc : α → List VV} {k : Nat} (h : ∀ a, (enc a).length = k) (H : AH) (ex : Bool) (l : List α) : srcV H k (.slice ex l.length (encC enc l)) = some (l.length, encC enc l) := by
  have e := encC_length h l
  simp only [srcV, e, Nat.le_refl, if_true]
  rw [List.take_of_length_le (by omega)]
/-! ### Names -/
mutual
def Pa.names : Pa → List ByteArray
  | .mk c n ks => if c = true then pasNames ks else [n]
def pasNames : List Pa → List ByteArray
  | [] => []
  | p :: l => p.names ++ pasNames l
end
theorem Pa.names_eq (p : Pa) : p.names = if p.con = true then pasNames p.kids else [p.name] := by cases p; rfl
theorem pasNames_append : ∀ (l m : List Pa), pasNames (l ++ m) = pasNames l ++ pasNames m
  | [], m => rfl
  | p :: l, m => by rw [List.cons_append, pasNames, pasNames, pasNames_append l m, List.append_assoc]
mutual
theorem Pa.names_len : ∀ p : Pa, p.names.length ≤ p.sz
  | .mk c n ks => by
    have := pasNames_len ks
    rw [Pa.names, Pa.sz]
    split
    · omega
    · simp
theorem pasNames_len : ∀ l : List Pa, (pasNames l).length ≤ pasSz l
  | [] => by simp [pasNames]
  | p :: l => by have := Pa.names_len p; have := pasNames_len l; rw [pasNames, pasSz, List.length_append]; omega
end
theorem str_one (s : ByteArray) : (strE s).all VV.one = true := rfl
theorem pasNames_take {l : List Pa} {i : Nat} (h : i < l.length) : pasNames (l.take (i + 1)) = pasNames (l.take i) ++ l[i].names := by
  rw [take_snoc h, pasNames_append]; simp [pasNames]
theorem pasSz_take : ∀ (l : List Pa) (i : Nat), pasSz (l.take i) ≤ pasSz l
  | [], i => by simp
  | p :: l, 0 => by simp [pasSz]
  | p :: l, i + 1 => by rw [List.take_succ_cons, pasSz, pasSz]; have := pasSz_take l i; omega
theorem names_ok : ∀ (n : Nat) (l : List Pa), pasSz l < n → pasSz l ≤ 1099511627776 → PureF Try.prog 34 [pasV l] (strsV (pasNames l)) := by
  intro n
  induction n with
  | zero => intro l h0 hs; omega
  | succ n ih =>
    intro l h0 hs
    have hl := pasSz_len l
    have ih' : ∀ i (h : i < l.length), PureF Try.prog 34 [pasV l[i].kids] (strsV (pasNames l[i].kids)) := fun i h => ih _ (by have := pasSz_mem (List.getElem_mem h); have := l[i].sz_eq; omega) (by have := pasSz_mem (List.getElem_mem h); have := l[i].sz_eq; omega)
    have hk : ∀ i (h : i < l.length), (pasNames l[i].kids).length ≤ 1099511627776 := fun i h => by have := pasSz_mem (List.getElem_mem h); have := l[i].sz_eq; have := pasNames_len l[i].kids; omega
    have hN : l.length ≤ 1099511627776 := by omega
    clear ih h0
    refine GivesF.pure fun H => ?_
    refine vcalls_intro fd34 (by simp) ?_
    unfold c34
    (repeat' (first | (simp only [↓s_reg, ↓s_seq, ↓s_seqL, ↓s_block, ↓s_loop, ↓s_nil, ↓s_consN, ↓s_thenN, ↓s_kret, ↓s_putS, ↓s_dOkS, ↓s_ev_t, ↓s_ev_c, ↓s_upd, ↓s_move, ↓s_assign, ↓s_callB, ↓s_len, intV, List.map_cons, List.map_nil, List.getD_cons_zero, List.getD_cons_succ, List.getD_nil, ite_true, ite_false, Nat.reduceEqDiff, Nat.reduceLT, ne_eq, not_false_eq_true, true_and, reduceCtorEq, undefV, eq_self, n_lenS, undef, elT_55, *])))
    refine acx_loop (fun _ _ _ h => h) (fun A H' => A.d = [] ∧ A.t 6 = pasV l ∧ A.t 7 = iV l.length ∧ ∃ (i : Nat) (Hb : AH), i ≤ l.length ∧ A.t 8 = iV i ∧ SubH H Hb ∧ OwnX Hb H' 9 1 (A.t 3) (pasNames (l.take i)).length (encC strE (pasNames (l.take i))))
      (fun A _ => match A.t 8 with | .lit (.int _ i) => ((l.length : Int) - i).toNat | _ => 0) ?_ ?_
    · exact ⟨rfl, rfl, rfl, 0, _, by omega, rfl, SubH.refl _, OwnX.nil _ _ _⟩
    · rintro ⟨t, d⟩ H' ⟨rfl, h6, h7, i, Hb, hi, h8, hs', ho⟩
      dsimp only at h6 h7 h8 ho
      have hlen := pasNames_len (l.take i)
      have htk := pasSz_take l i
      unfold b34_1
      (repeat' (first | (simp only [↓s_skip, ↓s_reg, ↓s_seq, ↓s_cond, ↓s_block, ↓s_exit, ↓s_nil, ↓s_consN, ↓s_thenN, ↓s_thenE, ↓s_inE, ↓s_kret, ↓s_putS, ↓s_putN, ↓s_dOkS, ↓s_dOkN, ↓s_ev_t, ↓s_ev_f, ↓s_upd, ↓s_move, ↓s_load, ↓s_store, ↓s_bin, ↓s_alloc, ↓s_buildSlice, ↓s_fieldAddr, ↓s_indexAddr, ↓s_callB, ↓s_callV, ↓s_callL, ↓s_append, ↓s_bin_lss, ptrV, List.map_cons, List.map_nil, List.length_cons, List.length_nil, List.append_nil, ite_true, ite_false, Nat.reduceEqDiff, Nat.reduceLT, Nat.reduceAdd, Nat.reduceLeDiff, ne_eq, not_false_eq_true, true_and, Nat.succ_ne_self, decide_true, decide_false, Int.natCast_nonneg, Int.toNat_natCast, Nat.mul_one, AH.get, AH.set_set, fillV, setAt, List.all_cons, List.all_nil, Bool.and_self, eq_self, Nat.zero_add, Nat.add_zero, List.drop, and_self, ldV_f, ldV_t3, Int.ofNat_lt, on_bool, cl_str, on_str, cl_agg, on_slice, List.set_cons_zero, List.set_cons_succ, ↓n_alloc, n_allocS, Nat.le_refl, n_ldI, n_ldP, n_faP, n_ixS, n_ixA1, n_ldA, n_ldC, n_ldB, n_faA, n_stP, n_stA, vcBuildSlice, List.replicate_succ, List.replicate_zero, List.flatten_cons, List.flatten_nil, pa_drop, vcBuildSlice, flT_57_0, flT_57_2, flT_57_1, ldT_57, ldT_4, ldT_55, ldT_9, szT_57, zeroT_57, elT_55, elT_52, zeroT_9, en_34, *]) | (refine condL_splitD ?_ ?_ <;> intro) | (refine condL_split ?_ ?_ <;> intro) | (refine acx_go rfl (fun _ _ _ h => h) ?_) | (refine allNew_intro fun zr zh => ?_; have zg := zh; (try simp only [AH.set_none] at zg)) | (refine PureF.use (ih' _ (by assumption)) ?_)))
      · have hlt : i < l.length := by assumption
        have hc : l[i].con = true := by assumption
        have e : pasNames (l.take (i + 1)) = pasNames (l.take i) ++ pasNames l[i].kids := by rw [pasNames_take hlt, Pa.names_eq, if_pos hc]
        have hk' := hk i hlt
        refine append_own elT_52 zeroT_9 rfl (by omega) (ho.alloc zh _) (src_enc (enc := strE) (k := 1) (fun _ => rfl) _ false _) (encC_one str_one _) (by omega) (by omega) (fun v' H'' ho2 => ?_)
        rw [← encC_append, ← List.length_append, ← e] at ho2
        (repeat' (first | (simp only [↓s_reg, ↓s_nil, ↓s_consN, ↓s_thenN, ↓s_inN, ↓s_kret, ↓s_putS, ↓s_dOkS, ↓s_ev_t, ↓s_ev_c, ↓s_upd, ↓s_move, ↓s_assign, ↓s_bin, ↓s_bin_add, ite_true, ite_false, Nat.reduceEqDiff, Nat.reduceLT, true_and, Nat.succ_ne_self, eq_self, *]) | (with_reducible refine And.intro ?_ ?_)))
        all_goals rw [wrap_ok (n := (i : Int) + 1) (by omega) (by omega)]
        · exact ⟨i + 1, _, by omega, rfl, hs'.of_set (hs'.none (ho.sub.none zh)), ho2⟩
        · omega
      · have hlt : i < l.length := by assumption
        have hc : l[i].con = false := by assumption
        have e : pasNames (l.take (i + 1)) = pasNames (l.take i) ++ [l[i].name] := by rw [pasNames_take hlt, Pa.names_eq, if_neg (by simp [hc])]
        refine append_one elT_52 zeroT_9 rfl (by omega) (ho.alloc zh _) rfl rfl (by omega) (by omega) (fun v' H'' ho2 => ?_)
        have e2 : encC strE (pasNames (l.take (i + 1))) = encC strE (pasNames (l.take i)) ++ [sV l[i].name] := by rw [e, encC_append]; rfl
        have e3 : (pasNames (l.take (i + 1))).length = (pasNames (l.take i)).length + 1 := by rw [e, List.length_append]; rfl
        rw [← e2, ← e3] at ho2
        (repeat' (first | (simp only [↓s_reg, ↓s_nil, ↓s_consN, ↓s_thenN, ↓s_inN, ↓s_kret, ↓s_putS, ↓s_dOkS, ↓s_ev_t, ↓s_ev_c, ↓s_upd, ↓s_move, ↓s_assign, ↓s_bin, ↓s_bin_add, ite_true, ite_false, Nat.reduceEqDiff, Nat.reduceLT, true_and, Nat.succ_ne_self, eq_self, *]) | (with_reducible refine And.intro ?_ ?_)))
        all_goals rw [wrap_ok (n := (i : Int) + 1) (by omega) (by omega)]
        · exact ⟨i + 1, _, by omega, rfl, hs'.of_set (hs'.none (ho.sub.none zh)), ho2⟩
        · omega
      · have hin : i = l.length := by omega
        subst hin
        rw [List.take_of_length_le (Nat.le_refl _)] at ho
        unfold c34_1
        (repeat' (first | (simp only [↓s_reg, ↓s_seq, ↓s_ret, ↓s_nil, ↓s_consN, ↓s_thenN, ↓s_putS, ↓s_dOkS, ↓s_ev_t, ↓s_upd, ↓s_move, ↓s_assign, ite_true, ite_false, Nat.reduceEqDiff, Nat.reduceLT, true_and, eq_self, *]) | (refine ret_tmp ?_)))
        exact ⟨_, rfl, GhV.back ho hs'⟩
/-! ### Twice -/
theorem mapStrBool : StrMap Try.prog 138 (.bool false) := strMap (kt := 9) (et := 4) (by kernel_rfl) (by kernel_rfl) (by kernel_rfl)
open Classical in
/-- The names that are known. -/
noncomputable def knownM (l : List ByteArray) : ByteArray → Option VV := fun s => if s ∈ l then some (boolV true) else none
theorem knownM_nil : (fun _ => none : ByteArray → Option VV) = knownM [] := by funext s; simp [knownM]
theorem knownM_snoc (l : List ByteArray) (s : ByteArray) : supd (knownM l) s (boolV true) = knownM (l ++ [s]) := by
  funext s'
  simp only [supd, knownM]
  by_cases h : s' = s
  · subst h; rw [if_pos rfl, if_pos (by simp)]
  · rw [if_neg h]
    by_cases h2 : s' ∈ l
    · rw [if_pos h2, if_pos (by simp [h2])]
    · rw [if_neg h2, if_neg (by simp [h2, h])]
theorem nodup_snoc {l : List ByteArray} {s : ByteArray} : (l ++ [s]).Nodup ↔ l.Nodup ∧ s ∉ l := by
  rw [List.nodup_append]
  constructor
  · rintro ⟨h1, h2, h3⟩
    exact ⟨h1, fun h => h3 s h s (by simp) rfl⟩
  · rintro ⟨h1, h2⟩
    refine ⟨h1, by simp, fun a ha b hb => ?_⟩
    simp at hb; subst hb; rintro rfl; exact h2 ha
theorem nodup_take {l : List ByteArray} (h : l.Nodup) (i : Nat) : (l.take i).Nodup := h.sublist (List.take_sublist _ _)
theorem twice_ok (l : List ByteArray) (hl : l.length ≤ 1099511627776) (hz : ∀ s ∈ l, s.size ≤ maxLen) : PureF Try.prog 33 [strsV l] (boolV (!decide l.Nodup)) := by
  refine PureF.forget fun H => ?_
  refine vcalls_intro fd33 (by simp) ?_
  unfold c33
  (repeat' (first | (refine sm_make (fun mp zh => ?_)) | (simp only [↓s_reg, ↓s_seq, ↓s_seqL, ↓s_block, ↓s_loop, ↓s_nil, ↓s_consN, ↓s_thenN, ↓s_kret, ↓s_putS, ↓s_dOkS, ↓s_ev_t, ↓s_ev_c, ↓s_upd, ↓s_move, ↓s_assign, ↓s_makeMap, ↓s_callB, ↓s_len, intV, boolV, List.map_cons, List.map_nil, List.getD_cons_zero, List.getD_cons_succ, List.getD_nil, ite_true, ite_false, Nat.reduceEqDiff, Nat.reduceLT, ne_eq, not_false_eq_true, true_and, Nat.succ_ne_self, reduceCtorEq, undefV, eq_self, n_lenS, undef, elT_52, *])))
  have hs0 := SubH.new (b := .map (keysOf Try.prog 138) (smap fun _ => none)) zh
  refine acx_loop (fun _ _ _ h => h) (fun A H' => A.d = [] ∧ A.t 3 = .lit (.map (some mp)) ∧ A.t 7 = strsV l ∧ A.t 8 = iV l.length ∧ SubH H H' ∧ ∃ (i : Nat), i ≤ l.length ∧ A.t 9 = iV i ∧ H' mp = some (.map (keysOf Try.prog 138) (smap (knownM (l.take i)))) ∧ (l.take i).Nodup)
    (fun A _ => match A.t 9 with | .lit (.int _ i) => ((l.length : Int) - i).toNat | _ => 0) ?_ ?_
  · exact ⟨rfl, rfl, rfl, rfl, hs0, 0, by omega, rfl, by rw [AH.set_same, knownM_nil]; rfl, by simp⟩
  · clear hs0
    rintro ⟨t, d⟩ H' ⟨rfl, h3, h7, h8, hs', i, hi, h9, km, hnd⟩
    dsimp only at h3 h7 h8 h9
    unfold b33_1
    have hz' : ∀ (h : i < l.length), l[i].size ≤ maxLen := fun h => hz _ (List.getElem_mem h)
    (repeat' (first | (refine sm_lookup mapStrBool (hz' (by assumption)) km (fun y hy => ?_) (fun hy => ?_)) | (refine sm_update mapStrBool (hz' (by assumption)) km ?_) | (simp only [↓s_skip, ↓s_reg, ↓s_seq, ↓s_cond, ↓s_condF, ↓s_block, ↓s_exit, ↓s_nil, ↓s_consN, ↓s_thenN, ↓s_thenE, ↓s_inN, ↓s_inE, ↓s_kret, ↓s_putS, ↓s_putN, ↓s_dOkS, ↓s_dOkN, ↓s_ev_t, ↓s_ev_c, ↓s_upd, ↓s_move, ↓s_assign, ↓s_load, ↓s_bin, ↓s_indexAddr, ↓s_lookup, ↓s_mapUpdate, ↓s_bin_lss, ↓s_bin_add, boolV, ite_true, ite_false, Nat.reduceEqDiff, Nat.reduceLT, true_and, Bool.false_eq_true, Nat.succ_ne_self, decide_true, decide_false, Int.natCast_nonneg, Int.toNat_natCast, Nat.mul_one, AH.get, eq_self, and_self, ldV_f, Int.ofNat_lt, n_ldI, n_ixS, n_ixA1, n_ldC, n_ldB, str_drop, okV, ldT_9, elT_52, *]) | (refine condL_splitD ?_ ?_ <;> intro) | (refine acx_go rfl (fun _ _ _ h => h) ?_) | (refine SubH.of_set ?_ ?_) | (with_reducible refine And.intro ?_ ?_)))
    · have hlt : i < l.length := by assumption
      have hin : l[i] ∈ l.take i ∧ y = boolV true := by
        unfold knownM at hy
        split at hy
        · rename_i h; exact ⟨h, by cases hy; rfl⟩
        · cases hy
      have hnn : decide l.Nodup = false := by
        rw [decide_eq_false_iff_not]
        intro h
        have := nodup_take h (i + 1)
        rw [take_snoc hlt, nodup_snoc] at this
        exact this.2 hin.1
      obtain ⟨_, rfl⟩ := hin
      clear hy
      (repeat' (first | (simp only [↓s_reg, ↓s_seq, ↓s_condT, ↓s_ret, ↓s_nil, ↓s_consN, ↓s_thenN, ↓s_thenR, ↓s_inR, ↓s_putS, ↓s_dOkS, ↓s_ev_c, ↓s_upd, ↓s_assign, boolV, ite_true, ite_false, Nat.reduceEqDiff, Nat.reduceLT, true_and, Bool.not_false, eq_self, and_self, *]) | (refine ret_tmp ?_)))
    · have hlt : i < l.length := by assumption
      rw [wrap_ok (n := (i : Int) + 1) (by omega) (by omega)]
      have hni : l[i] ∉ l.take i := by
        intro h
        simp [knownM, h] at hy
      exact ⟨i + 1, by omega, rfl, by rw [take_snoc hlt, ← knownM_snoc]; rfl, by rw [take_snoc hlt, nodup_snoc]; exact ⟨hnd, hni⟩⟩
    · rw [wrap_ok (n := (i : Int) + 1) (by omega) (by omega)]
      omega
    · rw [List.take_of_length_le (by omega)] at hnd
      unfold c33_1
      have : decide l.Nodup = true := decide_eq_true hnd
      (repeat' (first | (simp only [↓s_reg, ↓s_seq, ↓s_ret, ↓s_nil, ↓s_consN, ↓s_thenN, ↓s_putS, ↓s_dOkS, ↓s_ev_c, ↓s_upd, ↓s_assign, ite_true, ite_false, Nat.reduceEqDiff, Nat.reduceLT, true_and, decide_true, Bool.not_true, eq_self, and_self, *]) | (refine ret_tmp ?_)))
end Go.PV.Ytglpmlbbaedbiaa
end
section
/- From the machine to a statement: what an argument reads asg, opened by its type; what is asked behind the call. -/
set_option linter.unusedVariables false
set_option linter.unusedSimpArgs false
namespace Go.PV
open Go.ChangeShapes Go.WideShapes Go.RowKit

/-- What was there. -/
abbrev old (w : World) (r : Nat) : Prop := r < w.heap.size
theorem sim_old (w : World) : Sim (old w) AH.nil w := ⟨fun r b h => by simp [AH.nil] at h, fun r b h => by simp [AH.nil] at h, fun r h => h⟩

section
variable {P : Program} {α β : Type} {t e : TypeId} {enc : α → List VV} {dom : α → Prop} {enc' : β → List VV} {dom' : β → Prop}
theorem RvL.split {S : Nat → Prop} {w : World} {xs ys : List VV} {cs : List Value} {k : Nat} (h1 : RvL S w xs (cs.take k)) (h2 : RvL S w ys (cs.drop k)) : RvL S w (xs ++ ys) cs := by
  have := h1.append h2
  rwa [List.take_append_drop] at this
theorem rvC_of_cells {S : Nat → Prop} {w : World} : ∀ {xs : List VV} {cs : List Value} {r o : Nat}, RvL S w xs cs → (∀ j, j < cs.length → w.cell? ⟨r, o + j, none⟩ = cs[j]?) → RvC S w xs r o
  | [], _, _, _, _, _ => trivial
  | x :: xs, cs, r, o, h, hc => by
    obtain ⟨u, us, rfl, h1, h2⟩ := h
    refine ⟨⟨u, by simpa using hc 0 (by simp), h1⟩, rvC_of_cells h2 fun j hj => ?_⟩
    have := hc (j + 1) (by simpa using hj)
    rw [show o + 1 + j = o + (j + 1) by omega]
    simpa using this
theorem RvC.append {S : Nat → Prop} {w : World} : ∀ {xs ys : List VV} {r o : Nat}, RvC S w xs r o → RvC S w ys r (o + xs.length) → RvC S w (xs ++ ys) r o
  | [], _, _, _, _, h => h
  | x :: xs, ys, r, o, h, h' => ⟨h.1, RvC.append h.2 (by rw [List.length_cons] at h'; rw [show o + 1 + xs.length = o + (xs.length + 1) by omega]; exact h')⟩
theorem cells_slice {w : World} {r : Reach} {base : Nat} {v : Value} (ht : P.underlying t = some (.slice e)) (h : Value.okWide P w r base t v) : v.cells.toList = [v] := by
  obtain ⟨a, l, c, rfl⟩ := okWide_slice ht h
  rfl
end

/-! ### Behind the call -/
section
variable {P : Program}
theorem below_step {W W' : World} {S' : Nat → Prop} {H' : AH} (h : Step (old W) AH.nil W S' H' W') : Below W.heap.size W W' := ⟨h.os, h.tape, h.output, h.size, fun k hk => h.fr k hk rfl⟩
theorem trodAll_below {H : Type} {en : TypeId × Value → H} (hl : laidOutB P = true) {W W' : World} (hb : Below W.heap.size W W') {sp : Nat → Bool} : ∀ {ts : List TypeId} {vs : List Value} {ds : List (DataW H)} {ps : List MemPlace},
    (∀ t ∈ ts, P.readableRec t = true ∧ t < P.types.size) → DataW.TrodAll en P W 0 (fun _ => true) true ts vs ds ps → (∀ x ∈ ps, x.block < W.heap.size) → (∀ x ∈ ps, sp x.block = true) → DataW.TrodAll en P W' 0 sp true ts vs ds ps
  | [], vs, ds, ps, _, h, _, _ => by obtain ⟨rfl, rfl, rfl⟩ := trodAll_nil h; exact trodAll_mk0
  | t :: ts, vs, ds, ps, hr, h, hlt, hsp => by
    obtain ⟨v, vs', d, ds', p, q, rfl, rfl, rfl, h1, h2⟩ := trodAll_cons h
    obtain ⟨r1, r2⟩ := hr t (List.mem_cons_self ..)
    exact trodAll_cons_mk (WideElems.Trod_stays hl r1 r2 h1 (fun x hx => hb.same (hlt x (by simp [hx]))) (fun x hx => hsp x (by simp [hx])))
      (trodAll_below hl hb (fun t ht => hr t (List.mem_cons_of_mem _ ht)) h2 (fun x hx => hlt x (by simp [hx])) (fun x hx => hsp x (by simp [hx])))
/-- What a law that comes out true owes. -/
theorem post_true {H : Type} {en : TypeId × Value → H} {fn : Func} {s : ChangeSpec} {apart fresh handsOn again : Bool} {W W' : World} {args : Array Value} {ds gs : List (DataW H)} {before : List MemPlace} {tb : TypeId}
    (hl : laidOutB P = true) (hr : (fn.params.toList.all fun t => P.readableRec t && decide (t < P.types.size)) = true) (hres : fn.resultTypes = #[tb]) (htb : P.underlying tb = some .bool) (hvars : s.vars = [])
    (hW : DataW.Whole en P fn.params.toList s.vars apart W args.toList ds gs before) (hs : s.fn H (ds ++ gs) = { results := [.lit (.bool true)], args := ds })
    (hb : Below W.heap.size W W') : s.post en P fn apart fresh handsOn again W args (.bool true) W' := by
  have hlt := hW.lt
  have hW' := hW
  obtain ⟨p, q, hA, hV, rfl, hfz, hnd⟩ := hW
  have hq : gs = [] ∧ q = [] := by
    have hV' : DataW.TrodVars en P W (fun _ => true) s.vars gs q := hV
    rw [hvars] at hV'
    exact trodVars_none hV'
  obtain ⟨rfl, rfl⟩ := hq
  simp only [List.append_nil] at hW' hs hfz hnd hlt
  have hrr : ∀ t ∈ fn.params.toList, P.readableRec t = true ∧ t < P.types.size := fun t ht => by
    have := List.all_eq_true.1 hr t ht
    simpa using this
  have hres' : ∀ (b : Nat) (sp : Nat → Bool) (hd : Bool), DataW.TrodAll en P W' b sp hd fn.resultTypes.toList ((Value.bool true).resultList fn.resultTypes.size) [.lit (.bool true)] [] := fun b sp hd => by
    rw [hres]
    exact trodAll_cons_mk (p := []) (p' := []) (shut_bool htb _) trodAll_mk0
  have hargs : ∀ sp : Nat → Bool, (∀ x ∈ p, sp x.block = true) → DataW.TrodAll en P W' 0 sp true fn.params.toList args.toList ds p := fun sp hsp => trodAll_below hl hb hrr hA hlt hsp
  have hv : ∀ sp : Nat → Bool, DataW.TrodVars en P W' sp s.vars [] [] := fun sp => by rw [hvars]; exact rfl
  have hold : ∀ x ∈ p, (fun b => decide (b < W.heap.size)) x.block = true := fun x hx => by simpa using hlt x hx
  refine ⟨ds, [], p, [], p, [], hW', ?_, ?_, ?_, hb.frame _, fun _ => ⟨?_, _, _, ([] ++ p) ++ [], ⟨[] ++ p, [], trodAll_append (hargs (fun _ => true) fun _ _ => rfl) (hres' _ _ _), hv _, rfl, ?_, ?_⟩, ?_⟩⟩
  · simp only [List.append_nil, hs]; exact hres' _ _ _
  · simp only [List.append_nil, hs]; exact hargs _ hold
  · simp only [List.append_nil, hs]; exact hv _
  · exact ok_one hres rfl (okWide_bool_mk htb _)
  · intro b off hp
    have hp' : MemPlace.cell b off ∈ p := by simpa using hp
    rw [hb.frozen (p := ⟨b, off, none⟩) (hlt _ hp')]
    exact hfz b off hp'
  · intro ha
    have := hnd ha
    simpa using this
  · intro x hx _
    simpa using hx
/-- A law that comes out true by its contract. -/
theorem calls_true {H : Type} {en : TypeId × Value → H} {f : FuncId} {fn : Func} {s : ChangeSpec} {apart fresh handsOn again : Bool} {W : World} {args : Array Value} {ds gs : List (DataW H)} {before : List MemPlace} {tb : TypeId} {xs : List VV}
    (hl : laidOutB P = true) (hr : (fn.params.toList.all fun t => P.readableRec t && decide (t < P.types.size)) = true) (hres : fn.resultTypes = #[tb]) (htb : P.underlying tb = some .bool) (hvars : s.vars = [])
    (hW : DataW.Whole en P fn.params.toList s.vars apart W args.toList ds gs before) (hs : s.fn H (ds ++ gs) = { results := [.lit (.bool true)], args := ds })
    (hx : RvL (old W) W xs args.toList) (h : PureF P f xs (boolV true)) : Calls P f args W fun e W' => ∃ v, e = .returned v ∧ s.post en P fn apart fresh handsOn again W args v W' := by
  refine (h AH.nil (old W) W args (sim_old W) hx).calls (room_wideAt P none) |>.mono fun e W' hq => ?_
  cases e with
  | returned v =>
    obtain ⟨S', H', x, h1, h2, h3, h4, _⟩ := hq
    simp only [VE.ret.injEq] at h4
    subst h4
    simp only [boolV, Rv] at h3
    subst h3
    exact ⟨_, rfl, post_true hl hr hres htb hvars hW hs (below_step h1)⟩
  | panicked ch => obtain ⟨S', H', h1, h2, h3, _⟩ := hq; simp at h3
  | outgrown => exact hq.elim
end
end Go.PV
end
section
/- What arguments read asg where what they hold is bounded: also of types that hold themselves. -/
set_option linter.unusedVariables false
set_option linter.unusedSimpArgs false
namespace Go.PV
open Go.ChangeShapes Go.WideShapes Go.RowKit
mutual
/-- How much a reading holds. -/
def bulkD {H : Type} : DataW H → Nat
  | .lit (.string bytes) => bytes.length + 1
  | .lit _ => 1
  | .nil => 1
  | .ptr d => bulkD d + 1
  | .slice elems spare => bulkA elems + bulkA spare + 1
  | .agg parts => bulkA parts + 1
  | .iface _ d => bulkD d + 1
  | .map entries => bulkE entries + 1
  | .held _ => 1
def bulkA {H : Type} : List (DataW H) → Nat
  | [] => 0
  | d :: r => bulkD d + bulkA r
def bulkE {H : Type} : List (Lit × DataW H) → Nat
  | [] => 0
  | x :: r => bulkX x + bulkE r
def bulkX {H : Type} : Lit × DataW H → Nat
  | (.string bytes, d) => bytes.length + bulkD d + 1
  | (_, d) => bulkD d + 1
end
def RdN (n : Nat) (P : Program) (t : TypeId) {α : Type} (enc : α → List VV) (dom : α → Prop) (msr : α → Nat) : Prop :=
  ∀ (H : Type) (en : TypeId × Value → H) (w : World) (base : Nat) (spare : Nat → Bool) (held : Bool) (fuel : Nat) (cs : List Value) (d : DataW H) (ps : List MemPlace),
    DataW.trod en P w base spare held fuel t cs = some (d, ps) → bulkD d ≤ n → ∃ a, dom a ∧ msr a ≤ bulkD d ∧ RvL (old w) w (enc a) cs
def RdNFs (n : Nat) (P : Program) (fs : List Field) (off tot : Nat) {α : Type} (enc : α → List VV) (dom : α → Prop) (msr : α → Nat) : Prop :=
  ∀ (H : Type) (en : TypeId × Value → H) (w : World) (base : Nat) (spare : Nat → Bool) (held : Bool) (k : Nat) (cs : List Value) (xs : List (DataW H × List MemPlace)),
    cs.length = tot → xs.length = fs.length → (∀ (i : Nat) (f : Field), fs[i]? = some f → DataW.trod en P w base spare held k f.type ((cs.drop f.offset).take (P.cellsOf f.type)) = xs[i]?) →
    bulkA (xs.map (·.1)) ≤ n → ∃ a, dom a ∧ msr a ≤ bulkA (xs.map (·.1)) ∧ RvL (old w) w (enc a) (cs.drop off)
theorem bulkD_pos {H : Type} (d : DataW H) : 1 ≤ bulkD d := by
  cases d with
  | lit l => cases l <;> simp [bulkD]
  | _ => simp [bulkD]
section
variable {n : Nat} {P : Program} {α β : Type} {t e : TypeId} {enc : α → List VV} {dom : α → Prop} {msr : α → Nat} {enc' : β → List VV} {dom' : β → Prop} {msr' : β → Nat}
theorem rdn_map (g : α → β) (h : RdN n P t enc dom msr) (h1 : ∀ a, enc' (g a) = enc a) (h2 : ∀ a, dom a → dom' (g a)) (h3 : ∀ a, msr' (g a) ≤ msr a) : RdN n P t enc' dom' msr' := by
  intro H en w base spare held fuel cs d ps ht hw
  obtain ⟨a, ha, hm, hr⟩ := h H en w base spare held fuel cs d ps ht hw
  exact ⟨g a, h2 a ha, Nat.le_trans (h3 a) hm, by rw [h1]; exact hr⟩
theorem rdn_zero : RdN 0 P t enc dom msr := by
  intro H en w base spare held fuel cs d ps ht hw
  have := bulkD_pos d
  omega
theorem rdn_int {k : IntKind} (ht : P.underlying t = some (.int k)) : RdN n P t (fun n : Int => [.lit (.int k n)]) (fun n => (Lit.int k n).wf = true) (fun _ => 1) := by
  intro H en w base spare held fuel cs d ps h _
  obtain ⟨m, rfl, _, hw⟩ := DataW.trod_int ht h
  exact ⟨m, hw, bulkD_pos d, _, [], rfl, rfl, rfl⟩
theorem rdn_bool (ht : P.underlying t = some .bool) : RdN n P t (fun b : Bool => [VV.lit (.bool b)]) (fun _ => True) (fun _ => 1) := by
  intro H en w base spare held fuel cs d ps h _
  obtain ⟨b, rfl, _⟩ := DataW.trod_bool ht h
  exact ⟨b, trivial, bulkD_pos d, _, [], rfl, rfl, rfl⟩
theorem rdn_string (ht : P.underlying t = some .string) : RdN n P t (fun s : ByteArray => [VV.lit (.string s)]) (fun _ => True) (fun s => s.size + 1) := by
  intro H en w base spare held fuel cs d ps h hw
  obtain ⟨s, rfl, hx, hm⟩ := DataW.trod_string ht h
  simp only [Prod.mk.injEq] at hx
  obtain ⟨rfl, rfl⟩ := hx
  refine ⟨s, trivial, ?_, _, [], rfl, rfl, rfl⟩
  simp only [bulkD, Array.length_toList]
  exact Nat.le_refl _
theorem rdnfs_nil (tot : Nat) : RdNFs n P [] tot tot (fun _ : Unit => []) (fun _ => True) (fun _ => 0) := by
  intro H en w base spare held k cs xs hl _ _ _
  refine ⟨(), trivial, Nat.zero_le _, ?_⟩
  rw [List.drop_eq_nil_of_le (by omega)]
  rfl
theorem rdnfs_cons {f : Field} {fs : List Field} {off tot k : Nat} (ho : f.offset = off) (hk : P.cellsOf f.type = k) (h1 : RdN n P f.type enc dom msr) (h2 : RdNFs n P fs (off + k) tot enc' dom' msr') :
    RdNFs n P (f :: fs) off tot (fun p : α × β => enc p.1 ++ enc' p.2) (fun p => dom p.1 ∧ dom' p.2) (fun p => msr p.1 + msr' p.2) := by
  intro H en w base spare held m cs xs hl hx hr hw
  cases xs with
  | nil => simp at hx
  | cons x xs =>
    have h0 := hr 0 f (by simp)
    simp only [List.getElem?_cons_zero] at h0
    simp only [List.map_cons, bulkA] at hw ⊢
    obtain ⟨a, ha, hma, hra⟩ := h1 H en w base spare held m _ x.1 x.2 h0 (by omega)
    obtain ⟨b, hb, hmb, hrb⟩ := h2 H en w base spare held m cs xs hl (by simpa using hx) (fun i f hf => by simpa using hr (i + 1) f (by simpa using hf)) (by omega)
    refine ⟨(a, b), ⟨ha, hb⟩, by show msr a + msr' b ≤ _; omega, RvL.split (k := k) ?_ ?_⟩
    · rw [ho, hk] at hra; exact hra
    · rw [List.drop_drop]; exact hrb
theorem rdn_struct {fs : Array Field} {tot : Nat} (ht : P.underlying t = some (.struct fs)) (hc : P.cellsOf t = tot) (h : RdNFs n P fs.toList 0 tot enc dom msr) : RdN (n + 1) P t enc dom (fun a => msr a + 1) := by
  intro H en w base spare held fuel cs d ps hr hw
  obtain ⟨xs, k, _, hx, hl, hxl, hf⟩ := DataW.trod_struct ht hr
  simp only [Prod.mk.injEq] at hx
  obtain ⟨rfl, rfl⟩ := hx
  simp only [bulkD] at hw ⊢
  obtain ⟨a, ha, hm, hra⟩ := h H en w base spare held k cs xs (by rw [hl, hc]) (by simpa using hxl) (fun i f hi => hf i f (by simpa using hi)) (by omega)
  exact ⟨a, ha, by show msr a + 1 ≤ _; omega, by simpa using hra⟩
theorem rvC_elemsN {S : Nat → Prop} {w : World} {k r : Nat} (hl : ∀ a, (enc a).length = k) : ∀ (bs : List Nat) (o : Nat), (∀ i (h : i < bs.length), ∃ a, dom a ∧ msr a ≤ bs[i] ∧ RvC S w (enc a) r (o + i * k)) → ∃ l, l.length = bs.length ∧ (∀ a ∈ l, dom a) ∧ (l.map msr).sum ≤ bs.sum ∧ RvC S w (encC enc l) r o
  | [], _, _ => ⟨[], rfl, by simp, by simp, trivial⟩
  | b :: bs, o, h => by
    obtain ⟨a, ha, hm, hr⟩ := h 0 (by simp)
    obtain ⟨l, hn, hd, hs, hrl⟩ := rvC_elemsN hl bs (o + k) fun i hi => by
      obtain ⟨b, hb, hmb, hrb⟩ := h (i + 1) (by simpa using hi)
      exact ⟨b, hb, by simpa using hmb, by rw [Nat.succ_mul] at hrb; rw [show o + k + i * k = o + (i * k + k) by omega]; exact hrb⟩
    refine ⟨a :: l, by simp [hn], ?_, ?_, ?_⟩
    · intro b hb
      rcases List.mem_cons.1 hb with rfl | hb
      · exact ha
      · exact hd b hb
    · simp only [List.map_cons, List.sum_cons]
      simp only [List.getElem_cons_zero] at hm
      omega
    · rw [encC_cons]
      exact RvC.append (by simpa using hr) (by rw [hl]; exact hrl)
theorem bulkA_sum {H : Type} : ∀ (l : List (DataW H)), bulkA l = (l.map bulkD).sum
  | [] => rfl
  | d :: l => by rw [bulkA, bulkA_sum l]; rfl
theorem bulkA_mem {H : Type} {d : DataW H} : ∀ {l : List (DataW H)}, d ∈ l → bulkD d ≤ bulkA l
  | x :: l, h => by
    rw [bulkA]
    rcases List.mem_cons.1 h with rfl | h
    · omega
    · have := bulkA_mem h; omega
theorem rdn_slice {k : Nat} (ht : P.underlying t = some (.slice e)) (hc : P.cellsOf e = k) (hk : 0 < k) (h : RdN n P e enc dom msr) (hl : ∀ a, (enc a).length = k) :
    RdN (n + 1) P t (fun l => [encS enc l]) (fun l => ∀ a ∈ l, dom a) (fun l => (l.map msr).sum + 1) := by
  intro H en w base spare held fuel cs d ps hr hw
  rcases DataW.trod_slice ht hr with ⟨rfl, _⟩ | ⟨a, len, cap, elems, rest, n', _, rfl, hx, _, hlc, hcm, hlen, hel, _, _⟩
  · exact ⟨[], by simp, by simpa using bulkD_pos d, _, [], rfl, ⟨none, 0, rfl, ⟨by simp, by simp⟩, by simp⟩, rfl⟩
  · simp only [Prod.mk.injEq] at hx
    obtain ⟨rfl, rfl⟩ := hx
    simp only [bulkD] at hw ⊢
    have each : ∀ i, (hi : i < elems.length) → ∃ x, dom x ∧ msr x ≤ bulkD elems[i].1 ∧ (a.add (i * k)).spot = none ∧ a.block < w.heap.size ∧ RvC (old w) w (enc x) a.block (a.off + i * k) := by
      intro i hi'
      have hi : i < len := by omega
      have h1 := hel i hi
      rw [hc] at h1
      rw [List.getElem?_eq_getElem hi', Option.bind_eq_some_iff] at h1
      obtain ⟨cs', hcs, hd⟩ := h1
      have hmem : bulkD elems[i].1 ≤ bulkA (elems.map (·.1)) := bulkA_mem (List.mem_map.2 ⟨elems[i], List.getElem_mem _, rfl⟩)
      obtain ⟨x, hx, hmx, hrx⟩ := h H en w base spare held n' cs' elems[i].1 elems[i].2 hd (by omega)
      obtain ⟨hblk, hcl, hcell⟩ := World.cells?_some hcs
      have hsp : ∀ j, j < k → ((a.add (i * k)).add j) = ⟨a.block, a.off + i * k + j, none⟩ := by
        intro j hj
        have h2 := hcell j hj
        rw [List.getElem?_eq_getElem (by omega)] at h2
        have h3 := World.cell?_spot h2
        unfold Addr.add at h3 ⊢
        obtain ⟨ab, ao, ax⟩ := a
        split at h3 <;> rename_i hj0 <;> split at h3 <;> rename_i hi0 <;> simp_all
      have h2 := hcell 0 hk
      rw [List.getElem?_eq_getElem (by omega)] at h2
      have h3 := World.cell?_spot h2
      refine ⟨x, hx, hmx, by simpa [Addr.add] using h3, ?_, rvC_of_cells hrx fun j hj => ?_⟩
      · have := World.block_lt_of_cell? w _ h2
        rw [hsp 0 hk] at this
        exact this
      · rw [← hsp j (by omega)]; exact hcell j (by omega)
    obtain ⟨l, hn, hd, hs, hrl⟩ := rvC_elemsN (S := old w) (w := w) (r := a.block) (dom := dom) (msr := msr) hl (elems.map fun x => bulkD x.1) a.off fun i hi => by
      obtain ⟨x, h1, h1', _, _, h2⟩ := each i (by simpa using hi)
      exact ⟨x, h1, by simpa using h1', h2⟩
    have hle : elems.length = len := by omega
    have hn' : l.length = len := by rw [hn, List.length_map, hle]
    refine ⟨l, hd, ?_, _, [], rfl, ⟨some a, cap, by rw [hn'], ⟨by omega, by simp⟩, fun hp => ?_⟩, rfl⟩
    · have e1 : bulkA (elems.map (·.1)) = (elems.map fun x => bulkD x.1).sum := by rw [bulkA_sum, List.map_map]; rfl
      show (l.map msr).sum + 1 ≤ _
      omega
    · obtain ⟨x, _, _, h3, h4, _⟩ := each 0 (by omega)
      have e0 : a.add (0 * k) = a := by simp [Addr.add]
      rw [e0] at h3
      obtain ⟨ab, ao, ax⟩ := a
      exact ⟨ab, ao, by simp at h3; rw [h3], h4, hrl⟩
/-- An argument. -/
theorem open_argN {H : Type} {en : TypeId × Value → H} {w : World} {base : Nat} {spare : Nat → Bool} {held : Bool} {v : Value} {d : DataW H} {ps : List MemPlace} (h : RdN n P t enc dom msr)
    (ht : DataW.Trod en P w base spare held t v d ps) (hw : bulkD d ≤ n) : ∃ a, dom a ∧ msr a ≤ bulkD d ∧ RvL (old w) w (enc a) v.cells.toList := by
  obtain ⟨fuel, hf⟩ := ht
  exact h H en w base spare held fuel _ d ps hf hw
end
end Go.PV
end
section
/- Arguments read: expressions, patterns, functions. -/
set_option linter.unusedVariables false
set_option linter.unusedSimpArgs false
set_option maxRecDepth 20000
namespace Go.PV.Ytglpmlbbaedbiaa
open Go Go.Proofs Go.ChangeShapes Go.WideShapes Go.RowKit
mutual
def Ex.wt : Ex → Nat
  | .mk _ n ks => 4 + n.size + exsWt ks
def exsWt : List Ex → Nat
  | [] => 0
  | k :: ks => k.wt + exsWt ks
end
theorem exsWt_eq : ∀ l : List Ex, exsWt l = (l.map Ex.wt).sum
  | [] => rfl
  | k :: l => by rw [exsWt, exsWt_eq l]; rfl
mutual
theorem Ex.sz_wt : ∀ e : Ex, e.sz ≤ e.wt
  | .mk _ n ks => by have := exsSz_wt ks; rw [Ex.sz, Ex.wt]; omega
theorem exsSz_wt : ∀ l : List Ex, exsSz l ≤ exsWt l
  | [] => Nat.le_refl _
  | k :: l => by have := Ex.sz_wt k; have := exsSz_wt l; rw [exsSz, exsWt]; omega
end
mutual
def Pa.wt : Pa → Nat
  | .mk _ n ks => 4 + n.size + pasWt ks
def pasWt : List Pa → Nat
  | [] => 0
  | k :: ks => k.wt + pasWt ks
end
theorem pasWt_eq : ∀ l : List Pa, pasWt l = (l.map Pa.wt).sum
  | [] => rfl
  | k :: l => by rw [pasWt, pasWt_eq l]; rfl
mutual
theorem Pa.sz_wt : ∀ e : Pa, e.sz ≤ e.wt
  | .mk _ n ks => by have := pasSz_wt ks; rw [Pa.sz, Pa.wt]; omega
theorem pasSz_wt : ∀ l : List Pa, pasSz l ≤ pasWt l
  | [] => Nat.le_refl _
  | k :: l => by have := Pa.sz_wt k; have := pasSz_wt l; rw [pasSz, pasWt]; omega
end
mutual
theorem Pa.names_wt : ∀ (p : Pa), ∀ s ∈ p.names, s.size ≤ p.wt
  | .mk c n ks, s, h => by
    rw [Pa.names] at h
    rw [Pa.wt]
    split at h
    · have := pasNames_wt ks s h; omega
    · simp at h; subst h; omega
theorem pasNames_wt : ∀ (l : List Pa), ∀ s ∈ pasNames l, s.size ≤ pasWt l
  | [], s, h => by simp [pasNames] at h
  | p :: l, s, h => by
    rw [pasNames] at h
    rw [pasWt]
    rcases List.mem_append.1 h with h | h
    · have := Pa.names_wt p s h; omega
    · have := pasNames_wt l s h; omega
end
def clWt (c : Cl) : Nat := pasWt c.pats + c.body.wt + 2
def fuWt (f : Fu) : Nat := f.name.size + (f.cls.map clWt).sum + 4
theorem sum_le {α : Type} {f g : α → Nat} (h : ∀ x, f x ≤ g x) : ∀ l : List α, (l.map f).sum ≤ (l.map g).sum
  | [] => Nat.le_refl _
  | x :: l => by have := sum_le h l; have := h x; simp only [List.map_cons, List.sum_cons]; omega
theorem fuSz_wt (f : Fu) : fuSz f ≤ fuWt f := by
  have : clsSz f.cls ≤ (f.cls.map clWt).sum := sum_le (fun c => by have := pasSz_wt c.pats; have := c.body.sz_wt; unfold clSz clWt; omega) f.cls
  unfold fuSz fuWt; omega
theorem rdn_slice' {n : Nat} {P : Program} {α : Type} {t e : TypeId} {enc : α → List VV} {dom : α → Prop} {msr : α → Nat} {k : Nat} (ht : P.underlying t = some (.slice e)) (hc : P.cellsOf e = k) (hk : 0 < k) (h : ∀ m, m < n → RdN m P e enc dom msr) (hl : ∀ a, (enc a).length = k) :
    RdN n P t (fun l => [encS enc l]) (fun l => ∀ a ∈ l, dom a) (fun l => (l.map msr).sum + 1) := by
  cases n with
  | zero => exact rdn_zero
  | succ n => exact rdn_slice ht hc hk (h n (Nat.lt_succ_self _)) hl
theorem rdEx : ∀ n m, m ≤ n → RdN m Try.prog 28 exE (fun _ => True) Ex.wt := by
  intro n
  induction n with
  | zero => intro m hm; obtain rfl : m = 0 := by omega
            exact rdn_zero
  | succ n ih =>
    intro m hm
    cases m with
    | zero => exact rdn_zero
    | succ m =>
      have hs : RdN m Try.prog 25 (fun l : List Ex => [encS exE l]) (fun l => ∀ a ∈ l, True) (fun l => (l.map Ex.wt).sum + 1) := rdn_slice' Try.underlying25 (by kernel_rfl) (by omega) (fun i hi => ih i (by omega)) exE_len
      refine rdn_map (fun p : Int × ByteArray × List Ex × Unit => Ex.mk p.1 p.2.1 p.2.2.1) (rdn_struct (tot := 3) Try.underlying28 (by kernel_rfl) (rdnfs_cons (k := 1) rfl (by kernel_rfl) (rdn_int Try.underlying3) (rdnfs_cons (k := 1) rfl (by kernel_rfl) (rdn_string Try.underlying9) (rdnfs_cons (k := 1) rfl (by kernel_rfl) hs (rdnfs_nil 3))))) ?_ (fun _ _ => trivial) ?_
      · intro p; rw [exE_eq]; rfl
      · intro p; rw [Ex.wt, exsWt_eq]; omega
theorem rdPa : ∀ n m, m ≤ n → RdN m Try.prog 50 paE (fun _ => True) Pa.wt := by
  intro n
  induction n with
  | zero => intro m hm; obtain rfl : m = 0 := by omega
            exact rdn_zero
  | succ n ih =>
    intro m hm
    cases m with
    | zero => exact rdn_zero
    | succ m =>
      have hs : RdN m Try.prog 44 (fun l : List Pa => [encS paE l]) (fun l => ∀ a ∈ l, True) (fun l => (l.map Pa.wt).sum + 1) := rdn_slice' Try.underlying44 (by kernel_rfl) (by omega) (fun i hi => ih i (by omega)) paE_len
      refine rdn_map (fun p : Bool × ByteArray × List Pa × Unit => Pa.mk p.1 p.2.1 p.2.2.1) (rdn_struct (tot := 3) Try.underlying50 (by kernel_rfl) (rdnfs_cons (k := 1) rfl (by kernel_rfl) (rdn_bool Try.underlying4) (rdnfs_cons (k := 1) rfl (by kernel_rfl) (rdn_string Try.underlying9) (rdnfs_cons (k := 1) rfl (by kernel_rfl) hs (rdnfs_nil 3))))) ?_ (fun _ _ => trivial) ?_
      · intro p; rw [paE_eq]; rfl
      · intro p; rw [Pa.wt, pasWt_eq]; omega
theorem rdExs (n : Nat) : RdN n Try.prog 25 (fun l : List Ex => [exsV l]) (fun _ => True) (fun l => exsWt l + 1) :=
  rdn_map id (rdn_slice' Try.underlying25 (by kernel_rfl) (by omega) (fun i hi => rdEx i i (Nat.le_refl _)) exE_len) (fun _ => rfl) (fun _ _ => trivial) (fun l => by show exsWt l + 1 ≤ _; rw [exsWt_eq]; omega)
theorem rdCl (n : Nat) : RdN n Try.prog 46 clE (fun _ => True) clWt := by
  cases n with
  | zero => exact rdn_zero
  | succ n =>
    have hs : RdN n Try.prog 44 (fun l : List Pa => [encS paE l]) (fun l => ∀ a ∈ l, True) (fun l => (l.map Pa.wt).sum + 1) := rdn_slice' Try.underlying44 (by kernel_rfl) (by omega) (fun i hi => rdPa i i (Nat.le_refl _)) paE_len
    refine rdn_map (fun p : List Pa × Ex × Unit => (⟨p.1, p.2.1⟩ : Cl)) (rdn_struct (tot := 4) Try.underlying46 (by kernel_rfl) (rdnfs_cons (k := 1) rfl (by kernel_rfl) hs (rdnfs_cons (k := 3) rfl (by kernel_rfl) (rdEx n n (Nat.le_refl _)) (rdnfs_nil 4)))) ?_ (fun _ _ => trivial) ?_
    · intro p; show clE _ = _ ++ (exE _ ++ _); rw [exE_eq]; rfl
    · intro p; show pasWt p.1 + p.2.1.wt + 2 ≤ _; rw [pasWt_eq]; omega
theorem rdFu (n : Nat) : RdN n Try.prog 24 fuE (fun _ => True) fuWt := by
  cases n with
  | zero => exact rdn_zero
  | succ n =>
    have hs : RdN n Try.prog 22 (fun l : List Cl => [encS clE l]) (fun l => ∀ a ∈ l, True) (fun l => (l.map clWt).sum + 1) := rdn_slice' (k := 4) Try.underlying22 (by kernel_rfl) (by omega) (fun i hi => rdCl i) (fun _ => rfl)
    refine rdn_map (fun p : ByteArray × Int × List Cl × Unit => (⟨p.1, p.2.1, p.2.2.1⟩ : Fu)) (rdn_struct (tot := 3) Try.underlying24 (by kernel_rfl) (rdnfs_cons (k := 1) rfl (by kernel_rfl) (rdn_string Try.underlying9) (rdnfs_cons (k := 1) rfl (by kernel_rfl) (rdn_int Try.underlying3) (rdnfs_cons (k := 1) rfl (by kernel_rfl) hs (rdnfs_nil 3))))) ?_ (fun _ _ => trivial) ?_
    · intro p; rfl
    · intro p; show p.1.size + (p.2.2.1.map clWt).sum + 4 ≤ _; omega
end Go.PV.Ytglpmlbbaedbiaa
end
section
/- What all statements of this seat need: the bound. -/
set_option linter.unusedVariables false
set_option linter.unusedSimpArgs false
set_option maxRecDepth 20000
namespace Go.PV
open Go.ChangeShapes Go.WideShapes Go.RowKit
theorem cells_struct {P : Program} {w : World} {r : Reach} {base : Nat} {v : Value} {t : TypeId} {fs : Array Field} (ht : P.underlying t = some (.struct fs)) (h : Value.okWide P w r base t v) : ∃ vs : Array Value, v = .agg vs ∧ v.cells.toList = vs.toList := by
  obtain ⟨cs, rfl, _⟩ := okWide_struct ht h
  exact ⟨cs, rfl, rfl⟩
theorem rv_one {S : Nat → Prop} {w : World} {x : VV} {v : Value} (h : RvL S w [x] v.cells.toList) (hv : v.cells.toList = [v]) : Rv S w x v := by
  obtain ⟨u, us, e, hr, _⟩ := h
  rw [hv] at e
  simp only [List.cons.injEq] at e
  rw [e.1]; exact hr
theorem rv_agg {S : Nat → Prop} {w : World} {xs : List VV} {v : Value} (h : RvL S w xs v.cells.toList) (hv : ∃ vs : Array Value, v = .agg vs ∧ v.cells.toList = vs.toList) : Rv S w (.agg xs) v := by
  obtain ⟨vs, e, hc⟩ := hv
  exact ⟨vs, e, by rw [← hc]; exact h⟩
end Go.PV
namespace Go.Proofs.Ytglpmlbbaedbiaa
open Go.PV
mutual
theorem bulk_eq {H : Type} : ∀ d : DataW H, Rows.uptoBulk d = bulkD d
  | .lit l => by cases l <;> rfl
  | .nil => rfl
  | .ptr d => by rw [Rows.uptoBulk, bulkD, bulk_eq d]
  | .slice elems spare => by rw [Rows.uptoBulk, bulkD, bulkAll_eq elems, bulkAll_eq spare]
  | .agg parts => by rw [Rows.uptoBulk, bulkD, bulkAll_eq parts]
  | .iface _ d => by rw [Rows.uptoBulk, bulkD, bulk_eq d]
  | .map entries => by rw [Rows.uptoBulk, bulkD, bulkEntries_eq entries]
  | .held _ => rfl
theorem bulkAll_eq {H : Type} : ∀ l : List (DataW H), Rows.uptoBulkAll l = bulkA l
  | [] => rfl
  | d :: r => by rw [Rows.uptoBulkAll, bulkA, bulk_eq d, bulkAll_eq r]
theorem bulkEntries_eq {H : Type} : ∀ l : List (Lit × DataW H), Rows.uptoBulkEntries l = bulkE l
  | [] => rfl
  | x :: r => by rw [Rows.uptoBulkEntries, bulkE, bulkEntry_eq x, bulkEntries_eq r]
theorem bulkEntry_eq {H : Type} : ∀ x : Lit × DataW H, Rows.uptoBulkEntry x = bulkX x
  | (l, d) => by cases l <;> simp only [Rows.uptoBulkEntry, bulkX, bulk_eq d]
end
theorem small_of {H : Type} {l : List (DataW H)} (hk : Rows.uptoSmall H l = true) : bulkA l ≤ 1048576 := by
  have h : Rows.uptoBulkAll l ≤ 1048576 := of_decide_eq_true hk
  rwa [bulkAll_eq] at h
theorem own : ownKnob Try.prog.godebug = none := by kernel_rfl
theorem laidOut : laidOutB Try.prog = true := by kernel_rfl
end Go.Proofs.Ytglpmlbbaedbiaa
end
section
/- Bindings: cloned, looked for, taken away. -/
set_option linter.unusedVariables false
set_option linter.unusedSimpArgs false
set_option maxRecDepth 20000
set_option maxHeartbeats 4000000
namespace Go.PV.Ytglpmlbbaedbiaa
open Go Go.Proofs
abbrev bdV (b : Bd) : VV := .agg (bdE b)
theorem bd_one (a : Bd) : (bdE a).all VV.one = true := rfl
theorem cloneBd {l : List Bd} (hl : l.length ≤ 1099511627776) (hne : 0 < l.length) (H : AH) : OwnF Try.prog 54 [bdsV l] H 102 4 l.length (encC bdE l) := by
  refine vcalls_intro fd54 (by simp) ?_
  unfold c54
  (repeat' (first | (simp only [↓s_reg, ↓s_seq, ↓s_nil, ↓s_consN, ↓s_thenN, ↓s_putS, ↓s_dOkS, ↓s_ev_t, ↓s_ev_c, ↓s_upd, ↓s_move, ↓s_assign, ↓s_bin, List.getD_cons_zero, List.getD_cons_succ, List.getD_nil, ite_true, ite_false, Nat.reduceLT, true_and, Nat.succ_ne_self, reduceCtorEq, undefV, eq_self, undef, *])))
  refine eq_nil und_96 fun b hb => ?_
  have hb := hb hne
  subst hb
  (repeat' (first | (simp only [↓s_skip, ↓s_reg, ↓s_seq, ↓s_cond, ↓s_condF, ↓s_nil, ↓s_consN, ↓s_thenN, ↓s_kret, ↓s_putS, ↓s_dOkS, ↓s_ev_t, ↓s_upd, ↓s_move, ↓s_buildSlice, ↓s_callB, ↓s_append, boolV, List.map_cons, List.map_nil, List.length_cons, List.length_nil, List.getD_cons_zero, List.getD_cons_succ, List.getD_nil, ite_true, ite_false, Nat.reduceEqDiff, Nat.reduceLT, Nat.reduceAdd, Nat.reduceMul, Nat.reduceLeDiff, true_and, Nat.succ_ne_self, reduceCtorEq, fillV, eq_self, Nat.zero_add, and_self, vcBuildSlice, List.replicate_zero, List.flatten_nil, vcBuildSlice, elT_96, zeroT_102, *])))
  refine append_clip elT_96 zeroT_102 rfl (by omega) rfl (src_enc (enc := bdE) (k := 4) (fun _ => rfl) H false l) (encC_one bd_one l) (by omega) (by omega) (fun h => by omega) (fun _ v' H' ho => ?_)
  (repeat' (first | (simp only [↓s_ret, ↓s_nil, ↓s_consN, ↓s_thenN, ↓s_kret, ↓s_putS, ↓s_dOkS, ↓s_ev_t, ↓s_upd, ↓s_assign, List.getD_cons_succ, List.getD_nil, ite_true, ite_false, Nat.reduceEqDiff, Nat.reduceLT, true_and, Nat.succ_ne_self, eq_self, *]) | (refine ret_tmp ?_)))
  exact ⟨_, H, rfl, SubH.refl _, by simpa using ho⟩
theorem cloneBd0 : PureF Try.prog 54 [bdsV []] (bdsV []) := by
  refine GivesF.pure fun H => ?_
  refine vcalls_intro fd54 (by simp) ?_
  unfold c54
  (repeat' (first | (simp only [↓s_reg, ↓s_seq, ↓s_nil, ↓s_consN, ↓s_thenN, ↓s_putS, ↓s_dOkS, ↓s_ev_t, ↓s_ev_c, ↓s_upd, ↓s_move, ↓s_assign, ↓s_bin, List.getD_cons_zero, List.getD_cons_succ, List.getD_nil, ite_true, ite_false, Nat.reduceLT, true_and, Nat.succ_ne_self, reduceCtorEq, undefV, eq_self, undef, *])))
  refine eq_nil und_96 fun b hb => ?_
  (repeat' (first | (simp only [↓s_skip, ↓s_reg, ↓s_seq, ↓s_cond, ↓s_ret, ↓s_nil, ↓s_consN, ↓s_thenN, ↓s_thenR, ↓s_kret, ↓s_putS, ↓s_dOkS, ↓s_ev_t, ↓s_ev_c, ↓s_upd, ↓s_move, ↓s_assign, ↓s_buildSlice, ↓s_callB, ↓s_append, boolV, List.map_cons, List.map_nil, List.length_cons, List.length_nil, List.getD_cons_zero, List.getD_cons_succ, List.getD_nil, ite_true, ite_false, Nat.reduceEqDiff, Nat.reduceLT, Nat.reduceAdd, Nat.reduceMul, Nat.reduceLeDiff, true_and, Nat.succ_ne_self, reduceCtorEq, fillV, eq_self, Nat.zero_add, and_self, vcBuildSlice, List.replicate_zero, List.flatten_nil, vcBuildSlice, elT_96, zeroT_102, *]) | (refine condL_split ?_ ?_ <;> intro) | (refine ret_tmp ?_)))
  · exact ⟨_, rfl, GhV.nil H⟩
  · refine append_clip elT_96 zeroT_102 rfl (by omega) rfl (src_enc (enc := bdE) (k := 4) (fun _ => rfl) H false []) (encC_one bd_one _) (by simp) (by simp) (fun _ => ?_) (fun h => absurd rfl h)
    (repeat' (first | (simp only [↓s_ret, ↓s_nil, ↓s_consN, ↓s_thenN, ↓s_kret, ↓s_putS, ↓s_dOkS, ↓s_ev_t, ↓s_upd, ↓s_assign, List.getD_cons_succ, List.getD_nil, ite_true, ite_false, Nat.reduceEqDiff, Nat.reduceLT, true_and, Nat.succ_ne_self, eq_self, *]) | (refine ret_tmp ?_)))
    exact ⟨_, rfl, GhV.imm H⟩
/-- The index of the first binding that is looked for, in a block or not. -/
theorem idxBd {l : List Bd} {v f : VV} {p : Bd → Bool} {H : AH} {K : VE → AH → Prop} (hv : SlR H v l.length (encC bdE l)) (hl : l.length ≤ 1099511627776)
    (hf : ∀ i (h : i < l.length), FnAt Try.prog f [bdV l[i]] (boolV (p l[i])) H) (hK : K (.ret (iV (idxF p l))) H) : VCalls Try.prog 76 [v, f] H K := by
  refine vcalls_intro fd76 (by simp) ?_
  unfold c76
  (repeat' (first | (simp only [↓s_reg, ↓s_seq, ↓s_seqL, ↓s_block, ↓s_loop, ↓s_nil, ↓s_consN, ↓s_thenN, ↓s_kret, ↓s_putS, ↓s_dOkS, ↓s_ev_t, ↓s_ev_c, ↓s_upd, ↓s_move, ↓s_assign, ↓s_callB, ↓s_len, intV, List.map_cons, List.map_nil, List.getD_cons_zero, List.getD_cons_succ, List.getD_nil, ite_true, ite_false, Nat.reduceEqDiff, Nat.reduceLT, true_and, reduceCtorEq, undefV, eq_self, undef, *]) | (refine hv.len (by simp [elT_96]) ?_)))
  refine acx_loop (fun _ _ _ h => h) (fun A H' => H' = H ∧ A.d = [] ∧ A.t 0 = v ∧ A.t 1 = f ∧ A.t 7 = iV l.length ∧ ∃ i : Nat, i ≤ l.length ∧ A.t 8 = iV i ∧ ∀ j (h : j < l.length), j < i → p l[j] = false)
    (fun A _ => match A.t 8 with | .lit (.int _ i) => ((l.length : Int) - i).toNat | _ => 0) ?_ ?_
  · exact ⟨rfl, rfl, rfl, rfl, rfl, 0, by simp, rfl, by simp⟩
  · rintro ⟨t, d⟩ H' ⟨rfl, rfl, h0, h1, h7, i, hi, h8, hj⟩
    dsimp only at h0 h1 h7 h8
    have hld : ∀ (h : i < l.length), ldV 4 true ((encC bdE l).drop ((i : Int).toNat * 4)) = some (bdV l[i]) := fun h => by
      rw [Int.toNat_natCast, bd_drop h]; exact ldV_t4 _ _ _ _ _
    unfold b76_1
    (repeat' (first | (simp only [↓s_skip, ↓s_reg, ↓s_seq, ↓s_cond, ↓s_block, ↓s_exit, ↓s_ret, ↓s_nil, ↓s_consN, ↓s_thenN, ↓s_thenE, ↓s_thenR, ↓s_inN, ↓s_inE, ↓s_inR, ↓s_kret, ↓s_putS, ↓s_dOkS, ↓s_ev_t, ↓s_ev_c, ↓s_upd, ↓s_move, ↓s_assign, ↓s_load, ↓s_bin, ↓s_indexAddr, ↓s_callV, ↓s_bin_lss, ↓s_bin_add, boolV, List.map_cons, List.map_nil, ite_true, ite_false, Nat.reduceEqDiff, Nat.reduceLT, true_and, Nat.succ_ne_self, decide_true, decide_false, reduceCtorEq, eq_self, Int.ofNat_lt, *]) | (refine condL_splitD ?_ ?_ <;> intro) | (refine condL_split ?_ ?_ <;> intro) | (refine ret_tmp ?_) | (refine acx_go rfl (fun _ _ _ h => h) ?_) | (refine hv.index elT_96 (by omega) (by omega) (fun a ha => ?_)) | (refine ha.load ldT_102 (x := bdV (l[i]'(by omega))) (hld (by omega)) ?_) | (refine hf _ _ _ ?_) | (with_reducible refine And.intro ?_ ?_)))
    · have hb : i < l.length := by assumption
      rw [← idxF_found hb (by assumption) (fun j h => hj j (by omega) h)]
      exact hK
    · have hb : i < l.length := by assumption
      rw [wrap_ok (by omega) (by omega)]
      refine ⟨i + 1, by omega, by simp, fun j h h' => ?_⟩
      rcases Nat.lt_or_ge j i with h2 | h2
      · exact hj j h h2
      · obtain rfl : j = i := by omega
        assumption
    · rw [wrap_ok (by omega) (by omega)]
      omega
    · unfold c76_1
      (repeat' (first | (simp only [↓s_reg, ↓s_seq, ↓s_ret, ↓s_nil, ↓s_consN, ↓s_thenN, ↓s_putS, ↓s_dOkS, ↓s_ev_c, ↓s_upd, ↓s_assign, ite_true, ite_false, Nat.reduceEqDiff, Nat.reduceLT, true_and, eq_self, Int.reduceNeg, *]) | (refine ret_tmp ?_)))
      rw [show (-1 : Int) = idxF p l from (idxF_none fun j h => hj j h (by omega)).symm]
      exact hK
theorem idxF_cases {α : Type} (p : α → Bool) (l : List α) : (idxF p l = -1 ∧ ∀ x ∈ l, p x = false) ∨ ∃ i, ∃ h : i < l.length, idxF p l = i ∧ p l[i] = true ∧ ∀ j (h : j < i), p l[j] = false := by
  unfold idxF
  cases h : l.findIdx? p with
  | none => exact .inl ⟨rfl, by simpa using h⟩
  | some i =>
    rw [List.findIdx?_eq_some_iff_getElem] at h
    obtain ⟨hi, hp, hj⟩ := h
    exact .inr ⟨i, hi, rfl, hp, fun j h => by simpa using hj j h⟩
theorem filter_none {α : Type} {p : α → Bool} {l : List α} (h : ∀ x ∈ l, p x = false) : l.filter (fun x => !p x) = l := List.filter_eq_self.2 fun x hx => by simp [h x hx]
theorem filter_take_snoc {α : Type} {p : α → Bool} {l : List α} {j : Nat} (h : j < l.length) : (l.take (j + 1)).filter (fun x => !p x) = (l.take j).filter (fun x => !p x) ++ (if p l[j] = true then [] else [l[j]]) := by
  rw [take_snoc h, List.filter_append]
  congr 1
  by_cases hp : p l[j] = true <;> simp [hp]
theorem bd_set {l : List Bd} {i : Nat} {x : Bd} (h : i < l.length) : setAt (encC bdE l) (i * 4) [sV x.1, iV x.2.op, sV x.2.name, encS exE x.2.kids] = encC bdE (l.set i x) := encC_setAt (enc := bdE) (k := 4) (fun _ => rfl) x h
theorem bd_set' {l : List Bd} {i : Nat} {x : Bd} (h : i < l.length) : ((((encC bdE l).set (i * 4) (sV x.1)).set (i * 4 + 1) (iV x.2.op)).set (i * 4 + 1 + 1) (sV x.2.name)).set (i * 4 + 1 + 1 + 1) (encS exE x.2.kids) = encC bdE (l.set i x) := bd_set h
theorem encC_take {α : Type} {enc : α → List VV} {k : Nat} (hk : ∀ x, (enc x).length = k) : ∀ (l : List α) (i : Nat), (encC enc l).take (i * k) = encC enc (l.take i)
  | [], i => by simp [encC]
  | x :: l, 0 => by simp [encC]
  | x :: l, i + 1 => by
    rw [encC_cons, List.take_succ_cons, encC_cons, List.take_append, hk, Nat.succ_mul, List.take_of_length_le (by rw [hk]; omega), show i * k + k - k = i * k from by omega, encC_take hk l i]
theorem delBd {l : List Bd} {v f : VV} {p : Bd → Bool} {H H1 : AH} {K : VE → AH → Prop} (ho : OwnX H H1 102 4 v l.length (encC bdE l)) (hne : 0 < l.length) (hl : l.length ≤ 1099511627776)
    (hf : ∀ H', SubH H H' → ∀ b, FnAt Try.prog f [bdV b] (boolV (p b)) H') (hK : K (.ret (bdsV (l.filter fun b => !p b))) H) : VCalls Try.prog 53 [v, f] H1 K := by
  refine gives_use ?_ hK
  clear hK
  have hrd := ho.read
  have hs1 := ho.sub
  refine vcalls_intro fd53 (by simp) ?_
  unfold c53
  rcases idxF_cases p l with ⟨h1, h2⟩ | ⟨i0, hi0, h1, h2, h3⟩
  · have hgh := GhV.own ho
    rw [filter_none h2]
    (repeat' (first | (simp only [↓s_reg, ↓s_seq, ↓s_cond, ↓s_condT, ↓s_ret, ↓s_nil, ↓s_consN, ↓s_thenN, ↓s_thenR, ↓s_kret, ↓s_putS, ↓s_dOkS, ↓s_ev_t, ↓s_ev_c, ↓s_ev_f, ↓s_upd, ↓s_move, ↓s_assign, ↓s_bin, ↓s_callV, ↓s_callL, ↓s_bin_eql, List.map_cons, List.map_nil, List.getD_cons_zero, List.getD_cons_succ, List.getD_nil, ite_true, ite_false, Nat.reduceEqDiff, Nat.reduceLT, true_and, Nat.succ_ne_self, decide_true, reduceCtorEq, undefV, eq_self, undef, Int.reduceNeg, en_76, *]) | (refine ret_tmp ?_) | (refine idxBd (l := l) (p := p) hrd hl (fun i h => hf _ hs1 _) ?_)))
    exact ⟨_, rfl, hgh⟩
  · rcases ho with ⟨_, h4, _⟩ | ⟨g, c, sp, rfl, hg0, rfl, q1, q2, q3, q4⟩
    · omega
    have q1' : (encC bdE l).length = l.length * 4 := q1
    have hi0' : ¬ ((i0 : Int) = -1) := by omega
    have w1 : IntKind.i64.wrap ((i0 : Int) + 1) = ((i0 + 1 : Nat) : Int) := by rw [wrap_ok (by omega) (by omega)]; simp
    (repeat' (first | (simp only [↓s_skip, ↓s_reg, ↓s_seq, ↓s_seqL, ↓s_cond, ↓s_condF, ↓s_block, ↓s_loop, ↓s_nil, ↓s_consN, ↓s_thenN, ↓s_kret, ↓s_putS, ↓s_dOkS, ↓s_ev_t, ↓s_ev_c, ↓s_ev_f, ↓s_upd, ↓s_move, ↓s_assign, ↓s_bin, ↓s_callV, ↓s_callL, ↓s_bin_eql, ↓s_bin_add, List.map_cons, List.map_nil, List.getD_cons_zero, List.getD_cons_succ, List.getD_nil, ite_true, ite_false, Nat.reduceEqDiff, Nat.reduceLT, true_and, Nat.succ_ne_self, decide_false, reduceCtorEq, undefV, eq_self, undef, Int.reduceNeg, en_76, *]) | (refine idxBd (l := l) (p := p) hrd hl (fun i h => hf _ hs1 _) ?_)))
    refine acx_loop (fun _ _ _ h => h) (fun A H' => A.d = [] ∧ A.t 0 = .lit (.slice (some ⟨g, 0, none⟩) l.length c) ∧ A.t 1 = f ∧ ∃ (i j : Nat) (m : List Bd), i < j ∧ j ≤ l.length ∧ A.t 5 = iV i ∧ A.t 6 = iV j ∧ m.length = l.length ∧ m.take i = (l.take j).filter (fun b => !p b) ∧ m.drop j = l.drop j ∧ SubH H H' ∧ H' g = some (.cells 102 (encC bdE m) sp))
      (fun A _ => match A.t 6 with | .lit (.int _ i) => ((l.length : Int) - i).toNat | _ => 0) ?_ ?_
    · refine ⟨rfl, rfl, rfl, i0, i0 + 1, l, by omega, by omega, rfl, rfl, rfl, ?_, rfl, hs1, AH.set_same _ _ _⟩
      rw [filter_take_snoc hi0, if_pos h2, List.append_nil, filter_none]
      intro x hx
      obtain ⟨k, hk, rfl⟩ := List.getElem_of_mem hx
      rw [List.getElem_take]
      exact h3 k (by rw [List.length_take] at hk; omega)
    · clear h1 h2 h3 hi0' w1 hrd hs1
      rintro ⟨t, d⟩ H' ⟨rfl, h0, h1, i, j, m, hij, hj, h5, h6, hm, hmt, hmd, hs, kg⟩
      dsimp only at h0 h1 h5 h6
      have hmj : ∀ (h : j < l.length), (encC bdE m).drop (j * 4) = sV l[j].1 :: iV l[j].2.op :: sV l[j].2.name :: encS exE l[j].2.kids :: encC bdE (m.drop (j + 1)) := fun h => by
        have e : m[j]'(by omega) = l[j] := by
          have := congrArg (·[0]?) hmd
          simpa [h, hm] using this
        rw [bd_drop (by omega), e]
      unfold b53_1
      (repeat' (first | (simp only [↓s_skip, ↓s_reg, ↓s_seq, ↓s_cond, ↓s_block, ↓s_exit, ↓s_nil, ↓s_consN, ↓s_thenN, ↓s_thenE, ↓s_inN, ↓s_inE, ↓s_kret, ↓s_putS, ↓s_putN, ↓s_dOkS, ↓s_dOkN, ↓s_ev_t, ↓s_ev_c, ↓s_upd, ↓s_move, ↓s_assign, ↓s_load, ↓s_store, ↓s_bin, ↓s_un, ↓s_alloc, ↓s_indexAddr, ↓s_callB, ↓s_callV, ↓s_len, ↓s_un_not, ↓s_bin_lss, ↓s_bin_add, ptrV, intV, boolV, List.map_cons, List.map_nil, List.length_cons, List.length_nil, ite_true, ite_false, Nat.reduceEqDiff, Nat.reduceLT, Nat.reduceAdd, ne_eq, not_false_eq_true, true_and, Nat.succ_ne_self, decide_true, decide_false, reduceCtorEq, Int.natCast_nonneg, Int.toNat_natCast, AH.get, AH.set_set, setAt, List.all_cons, List.all_nil, Bool.and_self, eq_self, Nat.zero_add, List.drop, and_self, ldV_t4, Int.ofNat_lt, on_int, on_str, cl_agg, on_slice, List.set_cons_zero, List.set_cons_succ, ↓n_alloc, n_allocS, Nat.le_refl, n_ldP, n_ixL, n_ixA2, n_lenL, n_ldA, n_ldB, n_stP, n_stA, ldT_102, szT_102, zeroT_102, elT_96, *]) | (refine condL_splitD ?_ ?_ <;> intro) | (refine condL_split ?_ ?_ <;> intro) | (refine acx_go rfl (fun _ _ _ h => h) ?_) | (refine allNew_intro fun zr zh => ?_; have zg := zh; (try simp only [AH.set_none] at zg); (try have zn_kg := AH.ne_of kg zh); (try have zn_kg := AH.ne_of kg zg.2); (try have zn_kg := AH.ne_of kg zg.2.2)) | (refine SubH.of_set ?_ ?_) | (exact SubH.none (by assumption) (by assumption)) | (refine hf _ ?_ _ _ ?_) | (with_reducible refine And.intro ?_ ?_)))
      · omega
      · have := encC_length (enc := bdE) (k := 4) (fun _ => rfl) m
        omega
      · have hb : j < l.length := by assumption
        have hp : p l[j] = false := by simpa using (by assumption : (!p l[j]) = true)
        rw [wrap_ok (n := (i : Int) + 1) (by omega) (by omega), wrap_ok (n := (j : Int) + 1) (by omega) (by omega), bd_set' (by omega)]
        refine ⟨i + 1, j + 1, m.set i l[j], by omega, by omega, rfl, rfl, by simpa using hm, ?_, ?_, ?_, rfl⟩
        · rw [filter_take_snoc hb, if_neg (by simp [hp]), ← hmt, take_snoc (by simp; omega), List.take_set_of_le (Nat.le_refl _)]
          simp
        · have := congrArg (List.drop 1) hmd
          rw [List.drop_drop, List.drop_drop] at this
          rw [List.drop_set_of_lt (by omega), this]
        · exact (hs.of_set (hs.none (by assumption))).of_set hg0
      · rw [wrap_ok (n := (j : Int) + 1) (by omega) (by omega)]
        omega
      · have hb : j < l.length := by assumption
        have hp : p l[j] = true := by simpa using (by assumption : (!p l[j]) = false)
        rw [wrap_ok (n := (j : Int) + 1) (by omega) (by omega)]
        refine ⟨i, j + 1, m, by omega, by omega, rfl, rfl, hm, ?_, ?_, ?_, rfl⟩
        · rw [filter_take_snoc hb, if_pos hp, hmt, List.append_nil]
        · have := congrArg (List.drop 1) hmd
          rw [List.drop_drop, List.drop_drop] at this
          exact this
        · exact hs.of_set (hs.none (by assumption))
      · rw [wrap_ok (n := (j : Int) + 1) (by omega) (by omega)]
        omega
      · have hje : j = l.length := by omega
        subst hje
        rw [List.take_of_length_le (Nat.le_refl _)] at hmt
        unfold c53_1
        clear hmj hmd
        have hci : ¬ c = i := by omega
        have hni : ¬ l.length - i = 0 := by omega
        have hlt : i < l.length := by omega
        (repeat' (first | (simp only [↓s_reg, ↓s_seq, ↓s_ret, ↓s_nil, ↓s_consN, ↓s_thenN, ↓s_kret, ↓s_putS, ↓s_putN, ↓s_dOkS, ↓s_dOkN, ↓s_ev_t, ↓s_upd, ↓s_move, ↓s_assign, ↓s_slice, ↓s_callB, ↓s_clear, List.map_cons, List.map_nil, List.length_cons, List.length_nil, ite_true, ite_false, Nat.reduceEqDiff, Nat.reduceLT, Nat.reduceAdd, Nat.reduceMul, ne_eq, not_false_eq_true, not_true_eq_false, true_and, and_true, Nat.succ_ne_self, reduceCtorEq, Int.natCast_nonneg, Int.toNat_natCast, List.all_cons, List.all_nil, Bool.and_self, eq_self, Nat.zero_add, Nat.add_zero, and_self, on_int, on_str, on_sl, Nat.le_refl, vcSlice, Option.map_none, Option.map_some, sliceOk, idxV, idxOk, imp_self, vcClear, zeroT_102, elT_96, *]) | (refine ret_tmp ?_) | (with_reducible refine And.intro ?_ ?_)))
        any_goals omega
        · have := encC_length (enc := bdE) (k := 4) (fun _ => rfl) m
          omega
        · exact fun h => trivial
        · have e0 : (if c = 0 then 0 else 0) = 0 := by split <;> rfl
          rw [e0, Nat.sub_zero, Nat.sub_zero]
          have em := encC_length (enc := bdE) (k := 4) (fun _ => rfl) m
          have ez : ((List.replicate (l.length - i) [Value.string { data := #[] }, Value.int IntKind.i64 0, Value.string { data := #[] }, Value.slice none 0 0]).flatten.map VV.lit).length = (l.length - i) * 4 := by simp
          rw [setAt_eq _ _ _ (by rw [ez]; omega), encC_take (enc := bdE) (k := 4) (fun _ => rfl), hmt, List.append_assoc]
          refine ⟨_, rfl, (GhV.slice (AH.set_same _ _ _) (by omega)).trans ((GhV.trunc _ _ _ _ _).trans ?_)⟩
          have el : (l.filter fun b => !p b).length = i := by rw [← hmt, List.length_take]; omega
          show GhV _ (.slice false i (encC bdE (l.filter fun b => !p b))) H (.slice false (l.filter fun b => !p b).length _)
          rw [el]
          refine GhV.forget (SubH.del ?_ hg0) _
          exact hs.of_set hg0
end Go.PV.Ytglpmlbbaedbiaa
end
section
/- Expressions put for variables. -/
set_option linter.unusedVariables false
set_option linter.unusedSimpArgs false
set_option maxRecDepth 20000
set_option maxHeartbeats 4000000
namespace Go.PV.Ytglpmlbbaedbiaa
open Go Go.Proofs
theorem delBd0 {f : VV} {H : AH} {K : VE → AH → Prop} (hK : K (.ret (bdsV [])) H) : VCalls Try.prog 53 [bdsV [], f] H K := by
  refine vcalls_intro fd53 (by simp) ?_
  unfold c53
  (repeat' (first | (simp only [↓s_reg, ↓s_seq, ↓s_cond, ↓s_condT, ↓s_ret, ↓s_nil, ↓s_consN, ↓s_thenN, ↓s_thenR, ↓s_kret, ↓s_putS, ↓s_dOkS, ↓s_ev_t, ↓s_ev_c, ↓s_ev_f, ↓s_upd, ↓s_move, ↓s_assign, ↓s_bin, ↓s_callV, ↓s_callL, ↓s_bin_eql, List.map_cons, List.map_nil, List.getD_cons_zero, List.getD_cons_succ, List.getD_nil, ite_true, ite_false, Nat.reduceEqDiff, Nat.reduceLT, true_and, Nat.succ_ne_self, decide_true, reduceCtorEq, undefV, eq_self, undef, Int.reduceNeg, (show idxF (fun _ : Bd => false) [] = -1 from rfl), en_76, *]) | (refine ret_tmp ?_) | (refine idxBd (l := []) (p := fun _ => false) (.inl ⟨false, rfl⟩) (by simp) (fun i h => absurd h (by simp)) ?_)))
theorem put1 {b : Bd} {op : Int} {name : ByteArray} {ks : VV} {e : TypeId} {r sp : Nat} {H : AH} (hr : H r = some (.cells e [iV op, sV name, ks] sp)) : FnAt Try.prog (.func (.func 55) [] [ptrV r 0]) [bdV b] (boolV (decide (b.1 = name))) H := by
  refine FnAt.cap en_55 fun K hK => ?_
  refine ReadF.use (x := boolV (decide (b.1 = name))) ?_ hK
  refine vcalls_intro fd55 (by simp) ?_
  unfold c55
  (repeat' (first | (simp only [↓s_reg, ↓s_seq, ↓s_ret, ↓s_nil, ↓s_consN, ↓s_thenN, ↓s_kret, ↓s_putS, ↓s_dOkS, ↓s_ev_t, ↓s_ev_c, ↓s_upd, ↓s_assign, ↓s_load, ↓s_bin, ↓s_box, ↓s_fieldAddr, ↓s_eqlS, ptrV, boolV, List.getD_cons_zero, List.getD_cons_succ, List.getD_nil, List.cons_append, List.nil_append, ite_true, ite_false, Nat.reduceEqDiff, Nat.reduceLT, ne_eq, not_false_eq_true, true_and, Nat.succ_ne_self, undefV, AH.get, eq_self, Nat.zero_add, Nat.add_zero, List.drop, ldV_f, cl_agg, ↓n_box, n_ldP, n_faP, n_ldA, n_ldB, n_faA, undef, flT_102_0, flT_34_1, ldT_9, *]) | (refine ret_tmp ?_) | (refine allNew_intro fun zr zh => ?_; have zg := zh; (try simp only [AH.set_none] at zg); (try have zn_hr := AH.ne_of hr zh); (try have zn_hr := AH.ne_of hr zg.2); (try have zn_hr := AH.ne_of hr zg.2.2)) | (exact SubH.refl _) | (refine SubH.of_set ?_ ?_)))
/-- What yields bindings, from the last one on. -/
theorem back1 {y : VV} {l : List Bd} {rb sp : Nat} {Inv Stop : Nat → AH → Prop} {H : AH} {K : VE → AH → Prop} (hl : l.length ≤ 1099511627776)
    (hI : Inv l.length H) (hbox : ∀ k B, Inv k B → B rb = some (.cells 96 [bdsV l] sp))
    (hy : ∀ k (h : k < l.length) B, Inv (k + 1) B → ∀ K' : VE → AH → Prop, (∀ B', Inv k B' → K' (.ret (boolV true)) B') → (∀ B', Stop k B' → K' (.ret (boolV false)) B') → ACall Try.prog none y [iV k, bdV l[k]] B K')
    (hyl : ∀ B xs K', vcCall Try.prog none y xs B K' = ACall Try.prog none y xs B K')
    (hEnd : ∀ B u, Inv 0 B → K (.ret u) B) (hStop : ∀ k (h : k < l.length) B u, Stop k B → K (.ret u) B) :
    VCalls Try.prog 75 [y, ptrV rb 0] H K := by
  refine vcalls_intro fd75 (by simp) ?_
  unfold c75
  have kb := hbox _ _ hI
  have w0 : IntKind.i64.wrap ((l.length : Int) - 1) = (l.length : Int) - 1 := wrap_ok (by omega) (by omega)
  (repeat' (first | (simp only [↓s_reg, ↓s_seq, ↓s_block, ↓s_loop, ↓s_nil, ↓s_consN, ↓s_thenN, ↓s_kret, ↓s_putS, ↓s_dOkS, ↓s_ev_t, ↓s_ev_c, ↓s_upd, ↓s_assign, ↓s_load, ↓s_bin, ↓s_callB, ↓s_len, ↓s_bin_sub, ptrV, intV, List.map_cons, List.map_nil, List.getD_cons_zero, List.getD_cons_succ, List.getD_nil, ite_true, ite_false, Nat.reduceEqDiff, Nat.reduceLT, ne_eq, not_false_eq_true, true_and, Nat.succ_ne_self, reduceCtorEq, undefV, eq_self, List.drop, ldV_f, n_ldP, n_lenS, n_ldA, n_ldB, undef, ldT_96, elT_96, *])))
  refine acx_loop (fun _ _ _ h => h) (fun A H' => A.d = [] ∧ A.t 0 = y ∧ A.t 1 = ptrV rb 0 ∧ ∃ k : Nat, k ≤ l.length ∧ A.t 3 = iV ((k : Int) - 1) ∧ Inv k H')
    (fun A _ => match A.t 3 with | .lit (.int _ i) => (i + 1).toNat | _ => 0) ?_ ?_
  · exact ⟨rfl, rfl, rfl, l.length, by omega, rfl, hI⟩
  · clear hI kb w0
    rintro ⟨t, d⟩ H' ⟨rfl, h0, h1, k, hk, h3, hI⟩
    dsimp only at h0 h1 h3
    have kb := hbox _ _ hI
    unfold b75_1
    cases k with
    | zero =>
      replace h3 : t 3 = iV (-1) := by rw [h3]; rfl
      (repeat' (first | (simp only [↓s_reg, ↓s_seq, ↓s_cond, ↓s_condF, ↓s_exit, ↓s_nil, ↓s_consN, ↓s_thenN, ↓s_thenE, ↓s_inE, ↓s_kret, ↓s_putS, ↓s_dOkS, ↓s_ev_t, ↓s_ev_c, ↓s_upd, ↓s_move, ↓s_bin, ↓s_bin_geq, ptrV, ite_true, ite_false, Nat.reduceLT, true_and, Nat.succ_ne_self, decide_false, eq_self, Int.reduceLE, Int.reduceNeg, *])))
      exact ⟨rfl, _, H', _, rfl, .refl _ _, hEnd H' _ hI⟩
    | succ j =>
      replace h3 : t 3 = iV j := by rw [h3]; congr 3; omega
      have hj : j < l.length := by omega
      (repeat' (first | (simp only [↓s_skip, ↓s_reg, ↓s_seq, ↓s_cond, ↓s_condT, ↓s_block, ↓s_nil, ↓s_consN, ↓s_thenN, ↓s_kret, ↓s_putS, ↓s_dOkS, ↓s_ev_t, ↓s_ev_c, ↓s_upd, ↓s_move, ↓s_load, ↓s_bin, ↓s_indexAddr, ↓s_callV, ↓s_bin_geq, ptrV, List.map_cons, List.map_nil, ite_true, ite_false, Nat.reduceEqDiff, Nat.reduceLT, true_and, Nat.succ_ne_self, decide_true, reduceCtorEq, Int.natCast_nonneg, Int.toNat_natCast, eq_self, List.drop, and_self, ldV_f, ldV_t4, Int.ofNat_lt, n_ldI, n_ldP, n_ixS, n_ixA1, n_ldA, n_ldC, n_ldB, bd_drop, ldT_96, ldT_102, elT_96, *])))
      refine hy j hj H' hI _ (fun B' hB => ?_) (fun B' hB => ?_)
      · (repeat' (first | (simp only [↓s_skip, ↓s_reg, ↓s_cond, ↓s_condF, ↓s_nil, ↓s_consN, ↓s_thenN, ↓s_inN, ↓s_kret, ↓s_putS, ↓s_dOkS, ↓s_ev_t, ↓s_ev_c, ↓s_upd, ↓s_move, ↓s_assign, ↓s_bin, ↓s_un, ↓s_un_not, ↓s_bin_sub, ptrV, boolV, ite_true, ite_false, Nat.reduceEqDiff, Nat.reduceLT, true_and, Nat.succ_ne_self, Bool.not_true, reduceCtorEq, eq_self, *]) | (with_reducible refine And.intro ?_ ?_)))
        all_goals rw [wrap_ok (n := (j : Int) - 1) (by omega) (by omega)]
        · exact ⟨j, by omega, rfl, hB⟩
        · omega
      · (repeat' (first | (simp only [↓s_cond, ↓s_condT, ↓s_ret, ↓s_nil, ↓s_consN, ↓s_thenN, ↓s_thenR, ↓s_inR, ↓s_kret, ↓s_putS, ↓s_dOkS, ↓s_ev_t, ↓s_upd, ↓s_un, ↓s_un_not, boolV, ite_true, ite_false, Nat.reduceEqDiff, Nat.reduceLT, true_and, Nat.succ_ne_self, Bool.not_false, eq_self, *])))
        exact ⟨rfl, _, B', _, rfl, .refl _ _, hStop j hj B' _ hB⟩
theorem backw {l : List Bd} {H : AH} {K : VE → AH → Prop} (h : ∀ rb, H rb = none → K (.ret (.func (.func 75) [] [ptrV rb 0])) (H.set rb (.cells 96 [bdsV l] 0))) : VCalls Try.prog 52 [bdsV l] H K := by
  refine vcalls_intro fd52 (by simp) ?_
  unfold c52
  (repeat' (first | (simp only [↓s_reg, ↓s_seq, ↓s_ret, ↓s_nil, ↓s_consN, ↓s_thenN, ↓s_kret, ↓s_putS, ↓s_dOkS, ↓s_ev_t, ↓s_ev_c, ↓s_upd, ↓s_assign, ↓s_box, ↓s_makeFunc, ptrV, List.map_cons, List.map_nil, List.getD_cons_zero, List.getD_cons_succ, List.getD_nil, ite_true, ite_false, Nat.reduceEqDiff, Nat.reduceLT, true_and, Nat.succ_ne_self, undefV, eq_self, cl_slice, ↓n_box, undef, *]) | (refine ret_tmp ?_) | (refine allNew_intro fun zr zh => ?_; have zg := zh; (try simp only [AH.set_none] at zg))))
  exact h _ (by assumption)
end Go.PV.Ytglpmlbbaedbiaa
end
