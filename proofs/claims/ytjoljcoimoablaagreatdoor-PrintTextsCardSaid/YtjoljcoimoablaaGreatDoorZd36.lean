/-
  The start out of what is laid: which variables are known, and where they lie.
-/
import Derived.Test.YtjoljcoimoablaaGreatDoorZd35
import Derived.LaidLaws
import Derived.OpenShut
namespace Go.Det

def entPlaces (e : Ent) : List MemPlace := MemPlace.row ⟨e.r, e.o, none⟩ e.vals.length
theorem mem_entPlaces {e : Ent} {i : Nat} (hi : i < e.vals.length) : MemPlace.cell e.r (e.o + i) ∈ entPlaces e := by
  unfold entPlaces MemPlace.row
  rw [List.mem_map]
  exact ⟨i, List.mem_range.2 hi, rfl⟩

theorem pair_of_pairwise {α : Type} {R : α → α → Prop} (hs : ∀ a b, R a b → R b a) : ∀ {l : List α}, l.Pairwise R → ∀ a ∈ l, ∀ b ∈ l, a ≠ b → R a b := by
  intro l
  induction l with
  | nil => intro _ a ha; simp at ha
  | cons x xs ih =>
    intro h a ha b hb hab
    rw [List.pairwise_cons] at h
    rcases List.mem_cons.1 ha with e | h1
    · rcases List.mem_cons.1 hb with e' | h2
      · exact absurd (e.trans e'.symm) hab
      · rw [e]
        exact h.1 b h2
    · rcases List.mem_cons.1 hb with e' | h2
      · rw [e']
        exact hs _ _ (h.1 a h1)
      · exact ih h.2 a h1 b h2 hab

theorem hinj_of {es : List Ent} (hne : ∀ e ∈ es, e.vals ≠ []) (hnd : (es.map entPlaces).flatten.Nodup) : ∀ e ∈ es, ∀ e' ∈ es, e.id ≠ e'.id → e.r = e'.r → e.o + e.vals.length ≤ e'.o ∨ e'.o + e'.vals.length ≤ e.o := by
  intro e he e' he' hid hr
  unfold List.Nodup at hnd
  rw [List.pairwise_flatten] at hnd
  have h2 := hnd.2
  rw [List.pairwise_map] at h2
  have h3 := pair_of_pairwise (R := fun a b : Ent => ∀ x ∈ entPlaces a, ∀ y ∈ entPlaces b, x ≠ y) (fun a b h x hx y hy => (h y hy x hx).symm) h2 e he e' he' (fun h => hid (by rw [h]))
  have l1 : 0 < e.vals.length := List.length_pos_iff.2 (hne e he)
  have l2 : 0 < e'.vals.length := List.length_pos_iff.2 (hne e' he')
  rcases Nat.lt_or_ge e'.o (e.o + e.vals.length) with a | a
  · rcases Nat.lt_or_ge e.o (e'.o + e'.vals.length) with b | b
    · exfalso
      rcases Nat.le_total e.o e'.o with c | c
      · have m1 := mem_entPlaces (e := e) (i := e'.o - e.o) (by omega)
        have m2 := mem_entPlaces (e := e') (i := 0) l2
        refine h3 _ m1 _ m2 ?_
        rw [hr, show e.o + (e'.o - e.o) = e'.o + 0 by omega]
      · have m1 := mem_entPlaces (e := e) (i := 0) l1
        have m2 := mem_entPlaces (e := e') (i := e.o - e'.o) (by omega)
        refine h3 _ m1 _ m2 ?_
        rw [hr, show e'.o + (e.o - e'.o) = e.o + 0 by omega]
    · exact .inr b
  · exact .inl a

inductive Want where
  | skip
  | err (obj : Nat)
  | ints

/-- What the program tells of errors that are *errors.errorString. -/
structure ErrTypes (P : Program) (ti tp : TypeId) (nm : String) : Prop where
  iface : ∃ ms, P.underlying ti = some (.interface ms)
  row : ∀ u, P.typeName? 3 u = some nm → u = tp
  ptr : ∃ te f ts, P.underlying tp = some (.pointer te) ∧ P.underlying te = some (.struct #[f]) ∧ f.type = ts ∧ f.offset = 0 ∧ P.underlying ts = some .string ∧ P.cellsOf te = 1 ∧ P.cellsOf ts = 1

inductive WantOK (P : Program) (ti tp : TypeId) (nm : String) : String × DataW Unit → Nat × Want → List (Nat × List Value) → Prop
  | skip (x : String × DataW Unit) (g : Nat) : WantOK P ti tp nm x (g, .skip) []
  | err {n : String} {d : DataW Unit} {g obj : Nat} {text : List UInt8} (hg : P.globalNamed n = some g) (ht : (P.globals[g]?).map (·.type) = some ti) (hd : d = .iface nm (.ptr (.agg [.lit (.string text)]))) :
      WantOK P ti tp nm (n, d) (g, .err obj) [(g, [.iface tp (.pointer (some ⟨obj, 0, none⟩))]), (obj, [.string ⟨⟨text⟩⟩])]
  | ints {n : String} {d : DataW Unit} {g : Nat} {t e : TypeId} {k : IntKind} {ns : List Int} (hg : P.globalNamed n = some g) (ht : (P.globals[g]?).map (·.type) = some t)
      (hu : P.underlying t = some (.array ns.length e)) (he : P.underlying e = some (.int k)) (hc : P.cellsOf e = 1) (hct : P.cellsOf t = ns.length) (hne : ns ≠ []) (hd : d = .agg (ns.map fun m => .lit (.int k m))) :
      WantOK P ti tp nm (n, d) (g, .ints) [(g, ns.map fun m => .int k m)]

inductive WantsOK (P : Program) (ti tp : TypeId) (nm : String) : List (String × DataW Unit) → List (Nat × Want) → List (Nat × List Value) → Prop
  | nil : WantsOK P ti tp nm [] [] []
  | cons {x : String × DataW Unit} {y : Nat × Want} {xs : List (String × DataW Unit)} {ys : List (Nat × Want)} {a b : List (Nat × List Value)} (h : WantOK P ti tp nm x y a) (t : WantsOK P ti tp nm xs ys b) : WantsOK P ti tp nm (x :: xs) (y :: ys) (a ++ b)

structure Parts (W : World) (ps : List MemPlace) (es : List Ent) : Prop where
  sub : (es.map entPlaces).flatten.Sublist ps
  ne : ∀ e ∈ es, e.vals ≠ []
  val : ∀ ρ : Inj, (∀ e ∈ es, ρ.b e.id = some (imgOf W e)) → ∀ e ∈ es, ∀ (i : Nat) v, e.vals[i]? = some v → ∃ v', W.cell? ⟨e.r, e.o + i, none⟩ = some v' ∧ VR ρ v v'

theorem Parts.append {W : World} {ps qs : List MemPlace} {es fs : List Ent} (h : Parts W ps es) (k : Parts W qs fs) : Parts W (ps ++ qs) (es ++ fs) where
  sub := by
    rw [List.map_append, List.flatten_append]
    exact h.sub.append k.sub
  ne := fun e he => by
    rcases List.mem_append.1 he with a | a
    · exact h.ne e a
    · exact k.ne e a
  val := fun ρ hρ e he => by
    rcases List.mem_append.1 he with a | a
    · exact h.val ρ (fun x hx => hρ x (List.mem_append.2 (.inl hx))) e a
    · exact k.val ρ (fun x hx => hρ x (List.mem_append.2 (.inr hx))) e a

theorem parts_of_laid {P : Program} {ti tp : TypeId} {nm : String} (T : ErrTypes P ti tp nm) {W : World} : ∀ {l : List (String × DataW Unit)} {ys : List (Nat × Want)} {ids : List (Nat × List Value)} {ps : List MemPlace}, WantsOK P ti tp nm l ys ids → DataW.LaidVars P W l ps →
    (∀ b off, MemPlace.cell b off ∈ ps → ∀ u v, W.cell? ⟨b, off, none⟩ = some (.iface u v) → Value.okWide P W .any 0 u v) → ∃ es : List Ent, es.map (fun e => (e.id, e.vals)) = ids ∧ Parts W ps es ∧ ∀ y ∈ ys, y.2 ≠ .skip → ∃ e ∈ es, e.id = y.1 ∧ e.r = y.1 ∧ e.o = 0 := by
  intro l ys ids ps h
  induction h generalizing ps with
  | nil =>
    intro _ _
    exact ⟨[], rfl, ⟨by simp, fun e he => by simp at he, fun ρ _ e he => by simp at he⟩, fun y hy => by simp at hy⟩
  | @cons x y xs ys a b h t ih =>
    intro hl hok
    obtain ⟨n, d⟩ := x
    obtain ⟨g, ty, cs, fuel, p, q, hg, ht, hv, hd, hr, rfl⟩ := hl
    obtain ⟨es, he, hp, hg0⟩ := ih hr fun b off hm => hok b off (List.mem_append.2 (.inr hm))
    suffices hs : ∃ fs : List Ent, fs.map (fun e => (e.id, e.vals)) = a ∧ Parts W (MemPlace.row ⟨g, 0, none⟩ cs.size ++ p) fs ∧ (y.2 ≠ .skip → ∃ e ∈ fs, e.id = y.1 ∧ e.r = y.1 ∧ e.o = 0) by
      obtain ⟨fs, h1, h2, h3⟩ := hs
      refine ⟨fs ++ es, by rw [List.map_append, h1, he], h2.append hp, fun z hz hn => ?_⟩
      rcases List.mem_cons.1 hz with rfl | hz
      · obtain ⟨e, a, b⟩ := h3 hn
        exact ⟨e, List.mem_append.2 (.inl a), b⟩
      · obtain ⟨e, a, b⟩ := hg0 z hz hn
        exact ⟨e, List.mem_append.2 (.inr a), b⟩
    clear ih hp he hg0
    cases h with
    | skip => exact ⟨[], rfl, ⟨by simp, fun e he => by simp at he, fun ρ _ e he => by simp at he⟩, fun h => absurd rfl h⟩
    | @err _ _ g' obj text hg' ht' hd' =>
      subst hd'
      obtain rfl : g = g' := Option.some.inj (hg.symm.trans hg')
      obtain rfl : ty = ti := Option.some.inj (ht.symm.trans ht')
      obtain ⟨ms, hi⟩ := T.iface
      obtain ⟨te, f, ts, hp, hte, hft, hfo, hs, hc, hcs⟩ := T.ptr
      have e0 : ∀ i, W.cell? ⟨g, i, none⟩ = cs[i]? := World.var?_cell hg hv
      obtain ⟨l⟩ := cs
      obtain ⟨a0, s0, rfl, hc0, hs0, hz0, rfl⟩ := errorString_of_trod hi T.row hp hte hft hfo hs hc hcs hd (fun u v e => by
        simp only at e
        subst e
        refine hok g 0 (List.mem_append.2 (.inl (List.mem_append.2 (.inl ?_)))) u v (by simpa using e0 0)
        simp [MemPlace.row])
      have hspot : a0.spot = none := by
        unfold World.cell? at hc0
        split at hc0
        · split at hc0
          · cases hc0
          · rename_i _ _ hh
            simpa using hh
        · cases hc0
      have hs1 : s0 = ⟨⟨text⟩⟩ := by
        obtain ⟨⟨x⟩⟩ := s0
        simp only at hs0
        rw [hs0]
      subst hs1
      refine ⟨[⟨g, g, 0, [.iface tp (.pointer (some ⟨obj, 0, none⟩))]⟩, ⟨obj, a0.block, a0.off, [.string ⟨⟨text⟩⟩]⟩], rfl, ⟨?_, ?_, ?_⟩, fun _ => ⟨_, List.mem_cons_self, rfl, rfl, rfl⟩⟩
      · simp [entPlaces, MemPlace.row]
      · intro e he
        simp at he
        rcases he with rfl | rfl <;> simp
      · intro ρ hρ e he i v hi
        have r2 := hρ ⟨obj, a0.block, a0.off, [.string ⟨⟨text⟩⟩]⟩ (by simp)
        simp at he
        rcases he with rfl | rfl
        · cases i with
          | zero =>
            simp at hi
            subst hi
            refine ⟨.iface tp (.pointer (some a0)), by simpa using e0 0, .iface tp (.ptr ⟨rfl, _, r2, ?_⟩)⟩
            obtain ⟨b, o, s⟩ := a0
            simp only at hspot
            subst hspot
            simp [imgOf]
          | succ i => simp at hi
        · cases i with
          | zero =>
            simp at hi
            subst hi
            refine ⟨.string ⟨⟨text⟩⟩, ?_, .string _⟩
            obtain ⟨b, o, s⟩ := a0
            simp only at hspot
            subst hspot
            simpa using hc0
          | succ i => simp at hi
    | @ints _ _ g' t e k ns hg' ht' hu he hc hct hne hd' =>
      subst hd'
      obtain rfl : g = g' := Option.some.inj (hg.symm.trans hg')
      obtain rfl : ty = t := Option.some.inj (ht.symm.trans ht')
      have e0 : ∀ i, W.cell? ⟨g, i, none⟩ = cs[i]? := World.var?_cell hg hv
      obtain ⟨xs, m, _, hx, hlen, hn, hel⟩ := DataW.trod_array hu hd
      have hsz : cs.size = ns.length := by
        rw [← hct, ← hlen]
        simp
      have hcell : ∀ (i : Nat) (v : Int), ns[i]? = some v → cs[i]? = some (Value.int k v) := by
        intro i v hi
        have hlt : i < ns.length := (List.getElem?_eq_some_iff.1 hi).1
        have h1 := hel i hlt
        rw [hc] at h1
        have hlt' : i < xs.length := by omega
        rw [List.getElem?_eq_getElem hlt'] at h1
        obtain ⟨z, hz1, hz2, _⟩ := DataW.trod_int he h1
        have h3 : (xs.map (·.1))[i]? = some xs[i].1 := by
          rw [List.getElem?_map, List.getElem?_eq_getElem hlt']
          rfl
        have h4 : ns.map (fun m => (DataW.lit (.int k m) : DataW Unit)) = xs.map (·.1) := by
          have := (Prod.mk.inj hx).1
          simpa using this
        rw [← h4, List.getElem?_map, hi, hz2] at h3
        simp at h3
        subst h3
        have h5 : (cs.toList.drop (i * 1))[0]? = some (.int k v) := by
          have := congrArg (fun l => l[0]?) hz1
          rw [List.getElem?_take] at this
          simpa using this
        simpa using h5
      refine ⟨[⟨g, g, 0, ns.map fun m => Value.int k m⟩], rfl, ⟨?_, ?_, ?_⟩, fun _ => ⟨_, List.mem_cons_self, rfl, rfl, rfl⟩⟩
      · simp only [List.map_cons, List.map_nil, List.flatten_cons, List.flatten_nil, List.append_nil, entPlaces, List.length_map]
        rw [← hsz]
        exact List.sublist_append_left _ _
      · intro e' he'
        simp at he'
        subst he'
        simpa using hne
      · intro ρ hρ e' he' i v hi
        simp at he'
        subst he'
        simp only [List.getElem?_map, Option.map_eq_some_iff] at hi
        obtain ⟨z, hz, rfl⟩ := hi
        refine ⟨.int k z, ?_, .int k z⟩
        simp only [Nat.zero_add]
        rw [e0]
        exact hcell i z hz

/-- All that is known may be read, and is what the list says. -/
theorem start_of_laid {P : Program} {ti tp : TypeId} {nm : String} (T : ErrTypes P ti tp nm) {W : World} {l : List (String × DataW Unit)} {ys : List (Nat × Want)} {ids : List (Nat × List Value)} {next : Nat}
    (hw : WantsOK P ti tp nm l ys ids) (hd : (ids.map (·.1)).Pairwise (· ≠ ·)) (hlt : ∀ x ∈ ids, x.1 < next) (h : laidMet P l W) : ∃ ρ : Inj, Start ρ (entHeap ids next) W ∧ Gok ρ (fun g => ys.any fun y => Nat.beq y.1 g && (match y.2 with | .skip => false | _ => true)) := by
  obtain ⟨ps, h1, h2, h3⟩ := h
  obtain ⟨es, rfl, hp, hg⟩ := parts_of_laid T hw h1 fun b off hm => (h3 b off hm).2
  have hd' : es.Pairwise fun a b => a.id ≠ b.id := by
    rw [List.map_map, List.pairwise_map] at hd
    exact hd
  have hval := hp.val (entInj W es) fun e he => entInj_mem hd' he
  refine ⟨entInj W es, start_of (fun e he => hlt (e.id, e.vals) (List.mem_map.2 ⟨e, he, rfl⟩)) ?_ hval (hinj_of hp.ne (hp.sub.nodup h2)), ?_⟩
  · intro e he
    have l1 : 0 < e.vals.length := List.length_pos_iff.2 (hp.ne e he)
    have m1 := hp.sub.subset (List.mem_flatten.2 ⟨_, List.mem_map.2 ⟨e, he, rfl⟩, mem_entPlaces (e := e) (i := 0) l1⟩)
    obtain ⟨c, ty, hc⟩ := (h3 _ _ m1).1
    refine ⟨c, ty, hc, ?_⟩
    obtain ⟨v', h5, _⟩ := hval e he (e.vals.length - 1) _ (List.getElem?_eq_getElem (by omega))
    unfold World.cell? at h5
    rw [hc] at h5
    simp only [Option.isSome_none] at h5
    have := (Array.getElem?_eq_some_iff.1 (by simpa using h5)).1
    omega
  · intro g h
    rw [List.any_eq_true] at h
    obtain ⟨y, hy, h⟩ := h
    simp only [Bool.and_eq_true, Nat.beq_eq] at h
    obtain ⟨rfl, h⟩ := h
    obtain ⟨e, he, a, b, c⟩ := hg y hy (fun hn => by rw [hn] at h; cases h)
    exact ⟨imgOf W e, by rw [← a]; exact entInj_mem hd' he, b, c⟩
end Go.Det
