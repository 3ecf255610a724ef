/- ArithRefutes is true of every input: of any rows and number of lines that a caller may hand it, under the form's own conditions alone (the sizes that the form asks of what is read). -/
import Derived.Test.YtefpjfpelicedaaRefu4
import Derived.OpenShut
import Derived.Handed
import Derived.JoinedOf
import Derived.Carry
import Derived.Test.YtefpjfpelicedaaRefu8
import Derived.SizedLaws
import Derived.Test.YtefpjfpelicedaaRows
import Derived.Test.YtefpjfpelicedaaRefu10
section
/- From the machine to a statement: what an argument reads asg, opened by its type; what is asked behind the call. -/
set_option linter.unusedVariables false
set_option linter.unusedSimpArgs false
namespace Go.PV
open Go.ChangeShapes Go.WideShapes Go.RowKit

/-- What was there. -/
abbrev old (w : World) (r : Nat) : Prop := r < w.heap.size
theorem sim_old (w : World) : Sim (old w) AH.nil w := ⟨fun r b h => by simp [AH.nil] at h, fun r b h => by simp [AH.nil] at h, fun r h => h⟩

/-- Whatever reads by the type is what 'enc' says, of something in 'dom'. -/
def RdT (P : Program) (t : TypeId) {α : Type} (enc : α → List VV) (dom : α → Prop) : Prop :=
  ∀ (H : Type) (en : TypeId × Value → H) (w : World) (base : Nat) (spare : Nat → Bool) (held : Bool) (fuel : Nat) (cs : List Value) (d : DataW H) (ps : List MemPlace),
    DataW.trod en P w base spare held fuel t cs = some (d, ps) → (∀ n ∈ d.weights P t, n ≤ reachBytes) → ∃ a, dom a ∧ RvL (old w) w (enc a) cs
/-- A struct's fields, from a place on. -/
def RdFs (P : Program) (fs : List Field) (off tot : Nat) {α : Type} (enc : α → List VV) (dom : α → Prop) : Prop :=
  ∀ (H : Type) (en : TypeId × Value → H) (w : World) (base : Nat) (spare : Nat → Bool) (held : Bool) (n : Nat) (cs : List Value) (xs : List (DataW H × List MemPlace)),
    cs.length = tot → xs.length = fs.length → (∀ (i : Nat) (f : Field), fs[i]? = some f → DataW.trod en P w base spare held n f.type ((cs.drop f.offset).take (P.cellsOf f.type)) = xs[i]?) →
    (∀ n ∈ DataW.weightsEach P (fs.map (·.type)) (xs.map (·.1)), n ≤ reachBytes) → ∃ a, dom a ∧ RvL (old w) w (enc a) (cs.drop off)

section
variable {P : Program} {α β : Type} {t e : TypeId} {enc : α → List VV} {dom : α → Prop} {enc' : β → List VV} {dom' : β → Prop}
theorem rd_map (g : α → β) (h : RdT P t enc dom) (h1 : ∀ a, enc' (g a) = enc a) (h2 : ∀ a, dom a → dom' (g a)) : RdT P t enc' dom' := by
  intro H en w base spare held fuel cs d ps ht hw
  obtain ⟨a, ha, hr⟩ := h H en w base spare held fuel cs d ps ht hw
  exact ⟨g a, h2 a ha, by rw [h1]; exact hr⟩
theorem rd_int {k : IntKind} (ht : P.underlying t = some (.int k)) : RdT P t (fun n : Int => [.lit (.int k n)]) (fun n => (Lit.int k n).wf = true) := by
  intro H en w base spare held fuel cs d ps h _
  obtain ⟨n, rfl, _, hw⟩ := DataW.trod_int ht h
  exact ⟨n, hw, _, [], rfl, rfl, rfl⟩
theorem rdfs_nil (tot : Nat) : RdFs P [] tot tot (fun _ : Unit => []) (fun _ => True) := by
  intro H en w base spare held n cs xs hl _ _ _
  refine ⟨(), trivial, ?_⟩
  rw [List.drop_eq_nil_of_le (by omega)]
  rfl
theorem RvL.split {S : Nat → Prop} {w : World} {xs ys : List VV} {cs : List Value} {k : Nat} (h1 : RvL S w xs (cs.take k)) (h2 : RvL S w ys (cs.drop k)) : RvL S w (xs ++ ys) cs := by
  have := h1.append h2
  rwa [List.take_append_drop] at this
theorem rdfs_cons {f : Field} {fs : List Field} {off tot k : Nat} (ho : f.offset = off) (hk : P.cellsOf f.type = k) (h1 : RdT P f.type enc dom) (h2 : RdFs P fs (off + k) tot enc' dom') :
    RdFs P (f :: fs) off tot (fun p : α × β => enc p.1 ++ enc' p.2) (fun p => dom p.1 ∧ dom' p.2) := by
  intro H en w base spare held n cs xs hl hx hr hw
  cases xs with
  | nil => simp at hx
  | cons x xs =>
    have h0 := hr 0 f (by simp)
    simp only [List.getElem?_cons_zero] at h0
    rw [List.map_cons, List.map_cons, DataW.weightsEach] at hw
    obtain ⟨a, ha, hra⟩ := h1 H en w base spare held n _ x.1 x.2 h0 fun m hm => hw m (List.mem_append_left _ hm)
    obtain ⟨b, hb, hrb⟩ := h2 H en w base spare held n cs xs hl (by simpa using hx) (fun i f hf => by simpa using hr (i + 1) f (by simpa using hf)) fun m hm => hw m (List.mem_append_right _ hm)
    refine ⟨(a, b), ⟨ha, hb⟩, RvL.split (k := k) ?_ ?_⟩
    · rw [ho, hk] at hra; exact hra
    · rw [List.drop_drop]; exact hrb
theorem rd_struct {fs : Array Field} {tot : Nat} (ht : P.underlying t = some (.struct fs)) (hc : P.cellsOf t = tot) (h : RdFs P fs.toList 0 tot enc dom) : RdT P t enc dom := by
  intro H en w base spare held fuel cs d ps hr hw
  obtain ⟨xs, n, _, hx, hl, hxl, hf⟩ := DataW.trod_struct ht hr
  simp only [Prod.mk.injEq] at hx
  obtain ⟨rfl, rfl⟩ := hx
  have := h H en w base spare held n cs xs (by rw [hl, hc]) (by simpa using hxl) (fun i f hi => hf i f (by simpa using hi)) (fun m hm => hw m (by
    simp only [DataW.weights, ht]; exact hm))
  simpa using this
theorem rvC_of_cells {S : Nat → Prop} {w : World} : ∀ {xs : List VV} {cs : List Value} {r o : Nat}, RvL S w xs cs → (∀ j, j < cs.length → w.cell? ⟨r, o + j, none⟩ = cs[j]?) → RvC S w xs r o
  | [], _, _, _, _, _ => trivial
  | x :: xs, cs, r, o, h, hc => by
    obtain ⟨u, us, rfl, h1, h2⟩ := h
    refine ⟨⟨u, by simpa using hc 0 (by simp), h1⟩, rvC_of_cells h2 fun j hj => ?_⟩
    have := hc (j + 1) (by simpa using hj)
    rw [show o + 1 + j = o + (j + 1) by omega]
    simpa using this
theorem RvC.append {S : Nat → Prop} {w : World} : ∀ {xs ys : List VV} {r o : Nat}, RvC S w xs r o → RvC S w ys r (o + xs.length) → RvC S w (xs ++ ys) r o
  | [], _, _, _, _, h => h
  | x :: xs, ys, r, o, h, h' => ⟨h.1, RvC.append h.2 (by rw [List.length_cons] at h'; rw [show o + 1 + xs.length = o + (xs.length + 1) by omega]; exact h')⟩
theorem rvC_elems {S : Nat → Prop} {w : World} {k r : Nat} (hl : ∀ a, (enc a).length = k) : ∀ (n o : Nat), (∀ i, i < n → ∃ a, dom a ∧ RvC S w (enc a) r (o + i * k)) → ∃ l, l.length = n ∧ (∀ a ∈ l, dom a) ∧ RvC S w (encC enc l) r o
  | 0, _, _ => ⟨[], rfl, by simp, trivial⟩
  | n + 1, o, h => by
    obtain ⟨a, ha, hr⟩ := h 0 (by omega)
    obtain ⟨l, hn, hd, hrl⟩ := rvC_elems hl n (o + k) fun i hi => by
      obtain ⟨b, hb, hrb⟩ := h (i + 1) (by omega)
      exact ⟨b, hb, by rw [Nat.succ_mul] at hrb; rw [show o + k + i * k = o + (i * k + k) by omega]; exact hrb⟩
    refine ⟨a :: l, by simp [hn], ?_, ?_⟩
    · intro b hb
      rcases List.mem_cons.1 hb with rfl | hb
      · exact ha
      · exact hd b hb
    · rw [encC_cons]
      exact RvC.append (by simpa using hr) (by rw [hl]; exact hrl)
theorem weightsAll_mem {H : Type} {e : TypeId} {d : DataW H} {m : Nat} (hm : m ∈ d.weights P e) : ∀ {l : List (DataW H)}, d ∈ l → m ∈ DataW.weightsAll P e l
  | x :: l, h => by
    rw [DataW.weightsAll]
    rcases List.mem_cons.1 h with rfl | h
    · exact List.mem_append_left _ hm
    · exact List.mem_append_right _ (weightsAll_mem hm h)
theorem rd_slice {k b : Nat} (ht : P.underlying t = some (.slice e)) (hc : P.cellsOf e = k) (hk : 0 < k) (hb : P.bytesOf e = b) (h : RdT P e enc dom) (hl : ∀ a, (enc a).length = k) :
    RdT P t (fun l => [encS enc l]) (fun l => l.length * b ≤ reachBytes ∧ ∀ a ∈ l, dom a) := by
  intro H en w base spare held fuel cs d ps hr hw
  rcases DataW.trod_slice ht hr with ⟨rfl, _⟩ | ⟨a, len, cap, elems, rest, n, _, rfl, hx, _, hlc, hcm, hlen, hel, _, _⟩
  · exact ⟨[], ⟨by simp, by simp⟩, _, [], rfl, ⟨none, 0, rfl, ⟨by simp, by simp⟩, by simp⟩, rfl⟩
  · simp only [Prod.mk.injEq] at hx
    obtain ⟨rfl, rfl⟩ := hx
    simp only [DataW.weights, ht, hb] at hw
    have h0 : len * b ≤ reachBytes := by
      have h1 := hw ((elems.length + rest.length) * b) (by simp)
      have : len * b ≤ (elems.length + rest.length) * b := Nat.mul_le_mul_right _ (by omega)
      omega
    have each : ∀ i, i < len → ∃ x, dom x ∧ (a.add (i * k)).spot = none ∧ a.block < w.heap.size ∧ RvC (old w) w (enc x) a.block (a.off + i * k) := by
      intro i hi
      have h1 := hel i hi
      rw [hc] at h1
      have hi' : i < elems.length := by omega
      rw [List.getElem?_eq_getElem hi', Option.bind_eq_some_iff] at h1
      obtain ⟨cs', hcs, hd⟩ := h1
      obtain ⟨x, hx, hrx⟩ := h H en w base spare held n cs' elems[i].1 elems[i].2 hd fun m hm => hw m (by
        apply List.mem_cons_of_mem
        apply List.mem_append_left
        exact weightsAll_mem hm (List.mem_map.2 ⟨elems[i], List.getElem_mem _, rfl⟩))
      obtain ⟨hblk, hcl, hcell⟩ := World.cells?_some hcs
      have hsp : ∀ j, j < k → ((a.add (i * k)).add j) = ⟨a.block, a.off + i * k + j, none⟩ := by
        intro j hj
        have h2 := hcell j hj
        rw [List.getElem?_eq_getElem (by omega)] at h2
        have h3 := World.cell?_spot h2
        unfold Addr.add at h3 ⊢
        obtain ⟨ab, ao, ax⟩ := a
        split at h3 <;> rename_i hj0 <;> split at h3 <;> rename_i hi0 <;> simp_all
      have h2 := hcell 0 hk
      rw [List.getElem?_eq_getElem (by omega)] at h2
      have h3 := World.cell?_spot h2
      refine ⟨x, hx, by simpa [Addr.add] using h3, ?_, rvC_of_cells hrx fun j hj => ?_⟩
      · have := World.block_lt_of_cell? w _ h2
        rw [hsp 0 hk] at this
        exact this
      · rw [← hsp j (by omega)]; exact hcell j (by omega)
    obtain ⟨l, hn, hd, hrl⟩ := rvC_elems (S := old w) (w := w) (r := a.block) (dom := dom) hl len a.off fun i hi => by
      obtain ⟨x, h1, _, _, h2⟩ := each i hi
      exact ⟨x, h1, h2⟩
    refine ⟨l, ⟨by rw [hn]; exact h0, hd⟩, _, [], rfl, ⟨some a, cap, by rw [hn], ⟨by omega, by simp⟩, fun hp => ?_⟩, rfl⟩
    obtain ⟨x, _, h3, h4, _⟩ := each 0 (by omega)
    have e0 : a.add (0 * k) = a := by simp [Addr.add]
    rw [e0] at h3
    obtain ⟨ab, ao, ax⟩ := a
    exact ⟨ab, ao, by simp at h3; rw [h3], h4, hrl⟩

/-- An argument of one cell. -/
theorem open_arg {H : Type} {en : TypeId × Value → H} {w : World} {base : Nat} {spare : Nat → Bool} {held : Bool} {v : Value} {d : DataW H} {ps : List MemPlace} {enc : α → VV} (h : RdT P t (fun a => [enc a]) dom)
    (ht : DataW.Trod en P w base spare held t v d ps) (hw : ∀ n ∈ d.weights P t, n ≤ reachBytes) (hv : v.cells.toList = [v]) : ∃ a, dom a ∧ Rv (old w) w (enc a) v := by
  obtain ⟨fuel, hf⟩ := ht
  obtain ⟨a, ha, u, us, e, hr, _⟩ := h H en w base spare held fuel _ d ps hf hw
  rw [hv] at e
  simp only [List.cons.injEq] at e
  exact ⟨a, ha, by rw [e.1]; exact hr⟩
theorem cells_slice {w : World} {r : Reach} {base : Nat} {v : Value} (ht : P.underlying t = some (.slice e)) (h : Value.okWide P w r base t v) : v.cells.toList = [v] := by
  obtain ⟨a, l, c, rfl⟩ := okWide_slice ht h
  rfl
theorem cells_int {w : World} {r : Reach} {base : Nat} {v : Value} {k : IntKind} (ht : P.underlying t = some (.int k)) (h : Value.okWide P w r base t v) : v.cells.toList = [v] := by
  obtain ⟨n, rfl⟩ := okWide_int ht h
  rfl
end

/-! ### Behind the call -/
section
variable {P : Program}
theorem below_step {W W' : World} {S' : Nat → Prop} {H' : AH} (h : Step (old W) AH.nil W S' H' W') : Below W.heap.size W W' := ⟨h.os, h.tape, h.output, h.size, fun k hk => h.fr k hk rfl⟩
theorem trodAll_below {H : Type} {en : TypeId × Value → H} (hl : laidOutB P = true) {W W' : World} (hb : Below W.heap.size W W') {sp : Nat → Bool} : ∀ {ts : List TypeId} {vs : List Value} {ds : List (DataW H)} {ps : List MemPlace},
    (∀ t ∈ ts, P.readableRec t = true ∧ t < P.types.size) → DataW.TrodAll en P W 0 (fun _ => true) true ts vs ds ps → (∀ x ∈ ps, x.block < W.heap.size) → (∀ x ∈ ps, sp x.block = true) → DataW.TrodAll en P W' 0 sp true ts vs ds ps
  | [], vs, ds, ps, _, h, _, _ => by obtain ⟨rfl, rfl, rfl⟩ := trodAll_nil h; exact trodAll_mk0
  | t :: ts, vs, ds, ps, hr, h, hlt, hsp => by
    obtain ⟨v, vs', d, ds', p, q, rfl, rfl, rfl, h1, h2⟩ := trodAll_cons h
    obtain ⟨r1, r2⟩ := hr t (List.mem_cons_self ..)
    exact trodAll_cons_mk (WideElems.Trod_stays hl r1 r2 h1 (fun x hx => hb.same (hlt x (by simp [hx]))) (fun x hx => hsp x (by simp [hx])))
      (trodAll_below hl hb (fun t ht => hr t (List.mem_cons_of_mem _ ht)) h2 (fun x hx => hlt x (by simp [hx])) (fun x hx => hsp x (by simp [hx])))
/-- What a law that comes out true owes. -/
theorem post_true {H : Type} {en : TypeId × Value → H} {fn : Func} {s : ChangeSpec} {apart fresh handsOn again : Bool} {W W' : World} {args : Array Value} {ds gs : List (DataW H)} {before : List MemPlace} {tb : TypeId}
    (hl : laidOutB P = true) (hr : (fn.params.toList.all fun t => P.readableRec t && decide (t < P.types.size)) = true) (hres : fn.resultTypes = #[tb]) (htb : P.underlying tb = some .bool) (hvars : s.vars = [])
    (hW : DataW.Whole en P fn.params.toList s.vars apart W args.toList ds gs before) (hs : s.fn H (ds ++ gs) = { results := [.lit (.bool true)], args := ds })
    (hb : Below W.heap.size W W') : s.post en P fn apart fresh handsOn again W args (.bool true) W' := by
  have hlt := hW.lt
  have hW' := hW
  obtain ⟨p, q, hA, hV, rfl, hfz, hnd⟩ := hW
  have hq : gs = [] ∧ q = [] := by
    have hV' : DataW.TrodVars en P W (fun _ => true) s.vars gs q := hV
    rw [hvars] at hV'
    exact trodVars_none hV'
  obtain ⟨rfl, rfl⟩ := hq
  simp only [List.append_nil] at hW' hs hfz hnd hlt
  have hrr : ∀ t ∈ fn.params.toList, P.readableRec t = true ∧ t < P.types.size := fun t ht => by
    have := List.all_eq_true.1 hr t ht
    simpa using this
  have hres' : ∀ (b : Nat) (sp : Nat → Bool) (hd : Bool), DataW.TrodAll en P W' b sp hd fn.resultTypes.toList ((Value.bool true).resultList fn.resultTypes.size) [.lit (.bool true)] [] := fun b sp hd => by
    rw [hres]
    exact trodAll_cons_mk (p := []) (p' := []) (shut_bool htb _) trodAll_mk0
  have hargs : ∀ sp : Nat → Bool, (∀ x ∈ p, sp x.block = true) → DataW.TrodAll en P W' 0 sp true fn.params.toList args.toList ds p := fun sp hsp => trodAll_below hl hb hrr hA hlt hsp
  have hv : ∀ sp : Nat → Bool, DataW.TrodVars en P W' sp s.vars [] [] := fun sp => by rw [hvars]; exact rfl
  have hold : ∀ x ∈ p, (fun b => decide (b < W.heap.size)) x.block = true := fun x hx => by simpa using hlt x hx
  refine ⟨ds, [], p, [], p, [], hW', ?_, ?_, ?_, hb.frame _, fun _ => ⟨?_, _, _, ([] ++ p) ++ [], ⟨[] ++ p, [], trodAll_append (hargs (fun _ => true) fun _ _ => rfl) (hres' _ _ _), hv _, rfl, ?_, ?_⟩, ?_⟩⟩
  · simp only [List.append_nil, hs]; exact hres' _ _ _
  · simp only [List.append_nil, hs]; exact hargs _ hold
  · simp only [List.append_nil, hs]; exact hv _
  · exact ok_one hres rfl (okWide_bool_mk htb _)
  · intro b off hp
    have hp' : MemPlace.cell b off ∈ p := by simpa using hp
    rw [hb.frozen (p := ⟨b, off, none⟩) (hlt _ hp')]
    exact hfz b off hp'
  · intro ha
    have := hnd ha
    simpa using this
  · intro x hx _
    simpa using hx
/-- A law that comes out true by its contract. -/
theorem calls_true {H : Type} {en : TypeId × Value → H} {f : FuncId} {fn : Func} {s : ChangeSpec} {apart fresh handsOn again : Bool} {W : World} {args : Array Value} {ds gs : List (DataW H)} {before : List MemPlace} {tb : TypeId} {xs : List VV}
    (hl : laidOutB P = true) (hr : (fn.params.toList.all fun t => P.readableRec t && decide (t < P.types.size)) = true) (hres : fn.resultTypes = #[tb]) (htb : P.underlying tb = some .bool) (hvars : s.vars = [])
    (hW : DataW.Whole en P fn.params.toList s.vars apart W args.toList ds gs before) (hs : s.fn H (ds ++ gs) = { results := [.lit (.bool true)], args := ds })
    (hx : RvL (old W) W xs args.toList) (h : PureF P f xs (boolV true)) : Calls P f args W fun e W' => ∃ v, e = .returned v ∧ s.post en P fn apart fresh handsOn again W args v W' := by
  refine (h AH.nil (old W) W args (sim_old W) hx).calls (room_wideAt P none) |>.mono fun e W' hq => ?_
  cases e with
  | returned v =>
    obtain ⟨S', H', x, h1, h2, h3, h4, _⟩ := hq
    simp only [VE.ret.injEq] at h4
    subst h4
    simp only [boolV, Rv] at h3
    subst h3
    exact ⟨_, rfl, post_true hl hr hres htb hvars hW hs (below_step h1)⟩
  | panicked ch => obtain ⟨S', H', h1, h2, h3, _⟩ := hq; simp at h3
  | outgrown => exact hq.elim
end
end Go.PV
end
section
/- The arguments' readings, opened; ArithSound. -/
set_option linter.unusedVariables false
set_option linter.unusedSimpArgs false
set_option maxRecDepth 20000
namespace Go.PV.Ytefpjfpelicedaa
open Go Go.Proofs Go.ChangeShapes Go.WideShapes Go.RowKit
theorem rd3 : RdT Try.prog 3 (fun n : Int => [iV n]) (fun n => (Lit.int .i64 n).wf = true) := rd_int Try.underlying3
def okInts (l : List Int) : Prop := l.length * 8 ≤ reachBytes ∧ ∀ n ∈ l, (Lit.int .i64 n).wf = true
theorem rd37 : RdT Try.prog 37 (fun l : List Int => [intsV l]) okInts := rd_slice Try.underlying37 (k := 1) (b := 8) (by kernel_rfl) (by omega) (by kernel_rfl) rd3 (fun _ => rfl)
def okRow (r : Row) : Prop := okInts r.c ∧ (Lit.int .i64 r.b).wf = true
theorem rd39 : RdT Try.prog 39 rowE okRow :=
  rd_map (fun p : List Int × Int × Unit => (⟨p.1, p.2.1⟩ : Row)) (rd_struct (tot := 2) Try.underlying39 (by kernel_rfl) (rdfs_cons (k := 1) rfl (by kernel_rfl) rd37 (rdfs_cons (k := 1) rfl (by kernel_rfl) rd3 (rdfs_nil 2))))
    (fun _ => rfl) (fun p h => ⟨h.1, h.2.1⟩)
def okRows (l : List Row) : Prop := l.length * 32 ≤ reachBytes ∧ ∀ r ∈ l, okRow r
theorem rd22 : RdT Try.prog 22 (fun l : List Row => [rowsV l]) okRows := rd_slice Try.underlying22 (k := 2) (b := 32) (by kernel_rfl) (by omega) (by kernel_rfl) rd39 (fun _ => rfl)
end Go.PV.Ytefpjfpelicedaa
namespace Go.Proofs.Ytefpjfpelicedaa
open Go.ChangeShapes Go.WideShapes Go.RowKit Go.PV Go.PV.Ytefpjfpelicedaa
theorem own : ownKnob Try.prog.godebug = none := by kernel_rfl
theorem laidOut : laidOutB Try.prog = true := by kernel_rfl
theorem weights_head {H : Type} {P : Program} {t : TypeId} {ts : List TypeId} {d : DataW H} {ds : List (DataW H)} {b : Nat} (h : (DataW.weightsEach P (t :: ts) (d :: ds)).all (· ≤ b) = true) :
    (∀ n ∈ d.weights P t, n ≤ b) ∧ (DataW.weightsEach P ts ds).all (· ≤ b) = true := by
  rw [DataW.weightsEach, List.all_append, Bool.and_eq_true] at h
  exact ⟨fun n hn => by simpa using List.all_eq_true.1 h.1 n hn, h.2⟩
end Go.Proofs.Ytefpjfpelicedaa
end
section
/- ArithRefutes. -/
set_option linter.unusedVariables false
set_option linter.unusedSimpArgs false
set_option maxRecDepth 20000
namespace Go.Proofs.Ytefpjfpelicedaa
open Go.ChangeShapes Go.WideShapes Go.RowKit Go.PV Go.PV.Ytefpjfpelicedaa
theorem refutes_contract (H : Type) (enc : TypeId × Value → H) (W : World) (base : Nat) (args : Array Value) (ds gs : List (DataW H)) (before : List MemPlace)
    (hval : ∀ (j : Nat) t v, Try.f3.params[j]? = some t → args[j]? = some v → Value.okWide Try.prog W .any base t v)
    (hW : DataW.Whole enc Try.prog Try.f3.params.toList Rows.arithRefutesSpec.vars false W args.toList ds gs before)
    (hsz : (DataW.weightsEach Try.prog (Try.f3.params.toList ++ Rows.arithRefutesSpec.plain.varTypes Try.prog) (ds ++ gs)).all (· ≤ reachBytes) = true) :
    Calls Try.prog 3 args W fun e W' => ∃ v, e = .returned v ∧ Rows.arithRefutesSpec.post enc Try.prog Try.f3 false true false false W args v W' := by
  have hW' := hW
  obtain ⟨p, q, hA0, hV, rfl, hfz, hnd⟩ := hW
  have hA : DataW.TrodAll enc Try.prog W 0 (fun _ => true) true Try.f3.params.toList args.toList ds p := hA0
  rw [Try.params3] at hA hval
  obtain ⟨v0, vs0, d0, ds0, p0, q0, hargs, rfl, rfl, h0, r0⟩ := trodAll_cons hA
  obtain ⟨v1, vs1, d1, ds1, p1, q1, rfl, rfl, rfl, h1, r1⟩ := trodAll_cons r0
  obtain ⟨rfl, rfl, rfl⟩ := trodAll_nil r1
  obtain rfl : args = #[v0, v1] := by cases args; simp_all
  obtain ⟨rfl, rfl⟩ := trodVars_none hV
  have ev : Try.f3.params.toList ++ Rows.arithRefutesSpec.plain.varTypes Try.prog = [22, 3] := by rw [Try.params3]; rfl
  rw [ev, List.append_nil] at hsz
  obtain ⟨w0, hsz⟩ := weights_head hsz
  obtain ⟨w1, hsz⟩ := weights_head hsz
  obtain ⟨rows, k0, a0⟩ := open_arg (enc := rowsV) rd22 h0 w0 (cells_slice Try.underlying22 (hval 0 22 v0 rfl rfl))
  obtain ⟨most, k1, a1⟩ := open_arg (enc := iV) rd3 h1 w1 (cells_int Try.underlying3 (hval 1 3 v1 rfl rfl))
  have hp : PureF Try.prog 3 [rowsV rows, iV most] (boolV true) := by
    exact refutes3 rows most (by have := k0.1; unfold reachBytes at this; omega)
  exact calls_true (xs := [rowsV rows, iV most]) laidOut (by kernel_rfl) (tb := 4) (by kernel_rfl) Try.underlying4 rfl hW' rfl ⟨_, _, rfl, a0, _, _, rfl, a1, rfl⟩ hp
set_option maxRecDepth 100000 in
theorem refutes_lifted (os : Os) (started : os.Started) (H : Type) (enc : TypeId × Value → H) :
    ReturnsInHanded {} Try.checked os 3 .any (Rows.arithRefutesSpec.pre6 enc Try.prog Try.f3 Rows.arithRefutesRow.domain false) (Rows.arithRefutesSpec.post enc Try.prog Try.f3 false true false false) := by
  refine returnsInHanded_of_change_sized (C := Try.checked) own started (by kernel_rfl) Try.func3
    (ChangeSpec.witness6 (enc := enc) (C := Try.checked) false ⟨#[], #[.slice none 0 0, .int .i64 0], []⟩ 8 (by kernel_rfl) (by kernel_rfl) (by kernel_rfl) (by kernel_rfl)) ?_
  intro W base args ds gs before hval hW _ hsz _
  exact refutes_contract H enc W base args ds gs before hval hW hsz
theorem arithRefutes : Rows.ArithRefutesSaid :=
  OpenClaim.holds_of_wide 3 Try.f3 rfl rfl rfl rfl rfl rfl rfl ⟨rfl, rfl, rfl, rfl, rfl⟩ rfl rfl rfl rfl rfl (by kernel_rfl) Try.func3 (by kernel_rfl)
    (of_decide_eq_true (by kernel_rfl)) (by unfold Func.isWrapper; first | (rw [if_pos (by decide +kernel)]; kernel_rfl) | (rw [if_neg (by decide +kernel)]; exact ⟨rfl, rfl⟩))
    (fun os started H enc _ => refutes_lifted os started H enc)
#print axioms arithRefutes
end Go.Proofs.Ytefpjfpelicedaa
end
