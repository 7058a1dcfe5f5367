/-
  One operation: sixth part: text and bytes, equalities, maps.
-/
import Derived.Test.YtjoljcoimoablaaGreatDoorZd13
import Derived.Laws.StructEq
import Derived.WideLaws
import Derived.Lib.ConvBytes
namespace Go.Det
variable {ρ : Inj} {H : Heap} {w : World}
section
variable {P : Program} {ev ev' : Operand → Value} {id : Nat} {v : Value} {H' : Heap} {o : Oper}

theorem isU8_some {e : TypeId} (h : isU8 P e = true) : P.underlying e = some (.int .u8) := by
  unfold isU8 at h
  split at h
  · assumption
  · cases h

theorem bytes_loop (P : Program) (w : World) (f : Value → ByteArray → Sem (ForInStep ByteArray)) (hf : ∀ n s, f (.int .u8 n) s = pure (.yield (s.push (UInt8.ofNat n.toNat)))) : ∀ (cs : List Value) (l : List UInt8) (acc : ByteArray), bytesString cs = some l →
    (forIn (m := Sem) cs acc f).run P w = .ok ⟨acc.data ++ l.toArray⟩ w
  | [], l, acc, h => by
    simp [bytesString] at h; subst h
    simp
  | c :: cs, l, acc, h => by
    cases c <;> try (simp [bytesString] at h)
    rename_i k n
    cases k <;> simp [bytesString] at h
    obtain ⟨r, hr, rfl⟩ := h
    have ih := bytes_loop P w f hf cs r (acc.push (UInt8.ofNat n.toNat)) hr
    simp only [List.forIn_cons, hf, Sem.run_bind, Sem.run_pure, Result.andThen_ok]
    rw [ih]
    congr 2
    simp [ByteArray.push]

theorem bytesString_eq {cs cs' : List Value} (h : VRL ρ cs cs') {l : List UInt8} (hb : bytesString cs = some l) : cs' = cs := by
  induction cs generalizing cs' l with
  | nil => have := h.1; simp at this; exact List.length_eq_zero_iff.1 this.symm
  | cons c cs ih =>
    obtain ⟨c', ys, rfl, h1, h2⟩ := h.uncons
    cases c <;> try (simp [bytesString] at hb)
    rename_i k n
    cases k <;> simp [bytesString] at hb
    obtain ⟨r, hr, _⟩ := hb
    rw [ih h2 hr, scalar_eq h1 rfl]

theorem sim_bytesToStr (hH : HeapRel ρ H w) (s t e : TypeId) (hs : P.underlying s = some (.slice e)) (he : isU8 P e = true) (ht : P.underlying t = some .string) (x : Operand) (hx : VR ρ (ev x) (ev' x)) (ho : o.op = .convert s t x)
    (h : evalOp ev H id (.bytesToStr x) = some (v, H')) : OpSim P ρ H w ev' o v H' := by
  have hu := isU8_some he
  simp only [evalOp] at h
  cases e1 : ev x <;> simp only [e1] at h <;> try cases h
  rename_i base len cap
  rw [e1] at hx
  cases base with
  | none =>
    simp only [Option.some.injEq, Prod.mk.injEq] at h
    obtain ⟨rfl, rfl⟩ := h
    cases hx' : ev' x <;> rw [hx'] at hx <;> cases hx
    exact .same hH (v' := .string .empty) (by simp [execOp, ho, hx', convert, run_underlying hs, run_underlying ht, run_underlying hu, Conv.bytesToString]) (.string _)
  | some a =>
    simp only at h
    cases hel : H.elems 1 len (.slice (some a) len len) with
    | none => simp [hel] at h
    | some cs =>
      simp only [hel] at h
      cases hb : bytesString cs with
      | none => simp [hb] at h
      | some l =>
        simp [hb] at h
        obtain ⟨rfl, rfl⟩ := h
        have real : ∃ a' c', ev' x = .slice (some a') len c' ∧ (loadCells a' len).run P w = .ok cs.toArray w := by
          cases hx' : ev' x <;> rw [hx'] at hx <;> cases hx
          case slice.slice c' a' hsl =>
            obtain ⟨s1, s2, I, s3, rfl, _⟩ := hsl
            refine ⟨_, _, rfl, ?_⟩
            simp only [Heap.elems, Nat.mul_one] at hel
            by_cases h0 : len = 0
            · rw [if_pos h0] at hel; cases hel; subst h0; rfl
            · rw [if_neg h0] at hel
              obtain ⟨cs', v1, v2, _⟩ := look_run P hH ⟨s1, I, s3, rfl⟩ hel
              rw [bytesString_eq v1 hb] at v2
              exact v2
          case slice.void c' a' =>
            refine ⟨_, _, rfl, ?_⟩
            simp [Heap.elems] at hel
            subst hel; rfl
        obtain ⟨a', c', hx', hl⟩ := real
        refine .same hH (v' := .string ⟨l.toArray⟩) ?_ (.string _)
        simp only [execOp, ho, hx', convert, Sem.run_bind, run_underlying hs, run_underlying ht, run_underlying hu, Conv.bytesToString, Result.andThen_ok, hl]
        rw [← Array.forIn_toList]
        simp only
        rw [bytes_loop P w _ (fun _ _ => rfl) cs l .empty hb]
        simp

theorem sim_strToBytes (hH : HeapRel ρ H w) (hid : H.blk.get id = none) (s t e : TypeId) (hs : P.underlying s = some .string) (ht : P.underlying t = some (.slice e)) (he : isU8 P e = true) (x : Operand) (hx : VR ρ (ev x) (ev' x)) (ho : o.op = .convert s t x)
    (h : evalOp ev H id (.strToBytes x) = some (v, H')) : OpSim P ρ H w ev' o v H' := by
  have hu := isU8_some he
  simp only [evalOp] at h
  cases e1 : ev x <;> simp only [e1] at h <;> try cases h
  rename_i b
  rw [e1] at hx
  have h1 := scalar_eq hx rfl
  have hC : b.size ≤ grownCap w b.size 0 e := grownCap_ge w b.size 0 e
  have hcm : (Lib.bytesCells w e b) = (bytesOfStr b ++ List.replicate (grownCap w b.size 0 e - b.size) (Value.int .u8 0)).toArray := by
    apply Array.ext'
    simp [bytesOfStr, Lib.bytesCells]
  have hbl : (bytesOfStr b).length = b.size := by simp [bytesOfStr]
  have hsz : (Lib.bytesCells w e b).size = grownCap w b.size 0 e := by rw [hcm]; simp [hbl]; omega
  have hbv : VRL ρ (bytesOfStr b) (bytesOfStr b) := VRL.map _ _ _ (fun y _ => .int _ _)
  have hs2 := sim_new hH hid hbv (List.replicate (grownCap w b.size 0 e - b.size) (Value.int .u8 0)) .row 1 e (w.drawn + 1) [] (fun _ => rfl) (fun p hp => by cases hp) (grownCap w b.size 0 e, grownCap w b.size 0 e + 1) (.inr ⟨by simp, by simp [hbl]; omega⟩)
  have hw : Lib.bytesWorld w e b = { w with heap := w.heap.push (.cells (bytesOfStr b ++ List.replicate (grownCap w b.size 0 e - b.size) (Value.int .u8 0)).toArray e (grownCap w b.size 0 e, grownCap w b.size 0 e + 1)), drawn := w.drawn + 1 } := by
    have hh : (Lib.bytesWorld w e b).heap = w.heap.push (.cells (bytesOfStr b ++ List.replicate (grownCap w b.size 0 e - b.size) (Value.int .u8 0)).toArray e (grownCap w b.size 0 e, grownCap w b.size 0 e + 1)) := by
      apply Array.ext
      · rw [Lib.bytesWorld_size]; simp
      · intro k h3 h4
        have e5 : (Lib.bytesWorld w e b).heap[k]? = (w.heap.push (.cells (bytesOfStr b ++ List.replicate (grownCap w b.size 0 e - b.size) (Value.int .u8 0)).toArray e (grownCap w b.size 0 e, grownCap w b.size 0 e + 1)))[k]? := by
          by_cases hk : k < w.heap.size
          · rw [Lib.bytesWorld_at_old w e b k hk, Array.getElem?_push, if_neg (by omega)]
          · have : k = w.heap.size := by simp at h4; omega
            subst this
            rw [Lib.bytesWorld_at_new, hsz, hcm]
            simp
        rw [Array.getElem?_eq_getElem h3, Array.getElem?_eq_getElem h4] at e5
        exact Option.some.inj e5
    have hrest : (Lib.bytesWorld w e b).tape = w.tape ∧ (Lib.bytesWorld w e b).drawn = w.drawn + 1 ∧ (Lib.bytesWorld w e b).os = w.os ∧ (Lib.bytesWorld w e b).output = w.output := by
      simp [Lib.bytesWorld, World.freeze, World.alloc, World.drew, -World.alloc_eq, -World.drew_eq]
    obtain ⟨r1, r2, r3, r4⟩ := hrest
    generalize Lib.bytesWorld w e b = W at hh r1 r2 r3 r4
    cases W
    simp only at hh r1 r2 r3 r4
    subst hh; subst r1; subst r2; subst r3; subst r4
    rfl
  rw [← hw] at hs2
  refine ⟨.slice (some ⟨w.heap.size, 0, none⟩) b.size (grownCap w b.size 0 e), _, _, .inl ?_, .slice ⟨rfl, Nat.le_refl _, _, Inj.with_self, rfl, fun _ => by simp [hbl], .inr ⟨rfl, hC, by simp [hbl], by simp [hbl]; omega⟩⟩, hs2⟩
  simp [execOp, ho, h1, Lib.run_convert_string_bytes w s t e b hs ht hu]

/-! ### Equalities -/
theorem sameBlock_run (hH : HeapRel ρ H w) {a b a' b' : Addr} (ha : AR ρ a a') (hb : AR ρ b b') {r : Bool} (h : sameBlockEq H a b = some r) : (sameAddr a' b').run P w = .ok r w := by
  obtain ⟨s1, I, hI, rfl⟩ := ha
  obtain ⟨t1, J, hJ, rfl⟩ := hb
  unfold sameBlockEq at h
  by_cases hk : a.block = b.block
  · rw [if_pos hk, if_pos ⟨s1, t1⟩] at h
    cases h
    have : J = I := by rw [hk, hJ] at hI; exact Option.some.inj hI
    subst this
    have : (a == b) = decide (a.off = b.off) := by
      obtain ⟨a1, a2, a3⟩ := a
      obtain ⟨b1, b2, b3⟩ := b
      simp only at hk s1 t1
      subst hk; subst s1; subst t1
      rw [Bool.eq_iff_iff]; simp
    simp [sameAddr, this]
    rw [Bool.eq_iff_iff]; simp
  · rw [if_neg hk, s1, t1] at h
    cases hX : H.blk.get a.block with
    | none => simp [hX] at h
    | some X =>
      cases hY : H.blk.get b.block with
      | none => simp [hX, hY] at h
      | some Y =>
        simp only [hX, hY] at h
        split at h
        · rename_i hkk
          cases h
          have hRX := hH.blk _ X I hX hI
          have hRY := hH.blk _ Y J hY hJ
          have k1 : I.kind = .box := by rw [← hRX.kind]; exact hkk.1
          have k2 : J.kind = .box := by rw [← hRY.kind]; exact hkk.2.1
          by_cases hne : I.r = J.r
          · obtain ⟨_, _, hoff⟩ := hH.boxInj _ _ I J hk hI hJ k1 k2 hne
            have h3 : a.off < X.size := hkk.2.2.1
            have h4 : b.off < Y.size := hkk.2.2.2
            have h5 := hRX.size
            have h6 := hRY.size
            have h7 : ¬ (I.o + a.off = J.o + b.off) := by omega
            simp [sameAddr, hne, h7]
          have hne : I.r ≠ J.r := hne
          obtain ⟨c, ty, fr, g1, _, _, _, g5⟩ := hRX.row
          obtain ⟨d, ty2, fr2, f1, _, _, _, f5⟩ := hRY.row
          have := g5 k1; subst this
          have := f5 k2; subst this
          have z1 : w.frozen? ⟨I.r, I.o + a.off, none⟩ = false := by simp [World.frozen?, g1]
          have z2 : w.frozen? ⟨J.r, J.o + b.off, none⟩ = false := by simp [World.frozen?, f1]
          have z3 : ∀ n, w.frozen? ⟨I.r, n, none⟩ = false := fun n => by simp [World.frozen?, g1]
          have z4 : ∀ n, w.frozen? ⟨J.r, n, none⟩ = false := fun n => by simp [World.frozen?, f1]
          have y1 : w.shape? I.r = some (ty, c.size) := by simp [World.shape?, g1]
          have y2 : w.shape? J.r = some (ty2, d.size) := by simp [World.shape?, f1]
          simp [sameAddr, hne, z1, noView, viewAt, y1, y2, mayBeOne, stringish, z2, z3, z4]
        · cases h

theorem nots_some {neg : Bool} {r : Option Bool} {v : Value} (h : nots neg r = some v) : ∃ b, r = some b ∧ v = .bool (if neg then !b else b) := by
  cases r with
  | none => simp [nots] at h
  | some b => simp [nots] at h; exact ⟨b, rfl, by cases neg <;> simp_all⟩

/-- '==' and '!=' out of the test itself. -/
theorem eq_finish (hH : HeapRel ρ H w) (op : BinOp) (hop : op = .eql ∨ op = .neq) (t yt : TypeId) (x y : Operand) (ho : o.op = .binOp op t x y yt) {b : Bool} (hg : (eqGuard op t x y (ev' x) (ev' y)).run P w = .ok () w)
    (hb : binOp .eql t (ev' x) (ev' y) = (do pure (.bool (← Op.equal t (ev' x) (ev' y))))) (hb2 : binOp .neq t (ev' x) (ev' y) = (do pure (.bool (!(← Op.equal t (ev' x) (ev' y)))))) (hr : (Op.equal t (ev' x) (ev' y)).run P w = .ok b w) :
    OpSim P ρ H w ev' o (.bool (if (isNeq op) then !b else b)) H := by
  refine .same hH (v' := .bool (if (isNeq op) then !b else b)) ?_ (.bool _)
  rcases hop with rfl | rfl
  · simp [execOp, ho, hg, hb, hr, isNeq]
  · simp [execOp, ho, hg, hb2, hr, isNeq]

theorem sim_eqPtr (hH : HeapRel ρ H w) (op : BinOp) (hop : op = .eql ∨ op = .neq) (t yt e : TypeId) (ht : P.underlying t = some (.pointer e)) (he : P.cellsOf e ≠ 0) (x y : Operand) (hx : VR ρ (ev x) (ev' x)) (hy : VR ρ (ev y) (ev' y)) (ho : o.op = .binOp op t x y yt)
    (h : evalOp ev H id (.eqPtr (isNeq op) x y) = some (v, H')) : OpSim P ρ H w ev' o v H' := by
  have hinfo : ∃ q, P.info? e = some q := by
    unfold Program.cellsOf at he
    cases hq : P.info? e with
    | none => simp [hq] at he
    | some q => exact ⟨q, rfl⟩
  obtain ⟨q, hq⟩ := hinfo
  rw [cellsOf_eq hq] at he
  simp only [evalOp] at h
  cases e1 : ev x <;> simp only [e1] at h <;> try cases h
  rename_i p
  cases e2 : ev y <;> simp only [e2] at h <;> try (cases p <;> cases h)
  rename_i r
  rw [e1] at hx; rw [e2] at hy
  have g : ∀ a b, (eqGuard op t x y (.pointer a) (.pointer b)).run P w = .ok () w := fun a b => by rcases hop with rfl | rfl <;> simp [eqGuard]
  cases p with
  | none =>
    have h1 : ev' x = .pointer none := by cases hx' : ev' x <;> rw [hx'] at hx <;> cases hx; rfl
    have h2 : ∃ r', ev' y = .pointer r' ∧ r'.isNone = r.isNone := by cases hy' : ev' y <;> rw [hy'] at hy <;> cases hy <;> exact ⟨_, rfl, rfl⟩
    obtain ⟨r', h2, h3⟩ := h2
    have hv : v = .bool (if (isNeq op) then !r.isNone else r.isNone) ∧ H' = H := by
      simp only [nots, Option.map_some, Option.some.injEq, Prod.mk.injEq] at h
      exact ⟨h.1.symm, h.2.symm⟩
    obtain ⟨rfl, rfl⟩ := hv
    refine eq_finish hH op hop t yt x y ho (by rw [h1, h2]; exact g _ _) (by rw [h1, h2]; rfl) (by rw [h1, h2]; rfl) ?_
    rw [h1, h2]
    have : ∀ d, (Op.equalIn (d + 1) t (.pointer none) (.pointer r')).run P w = .ok r.isNone w := fun d => by simp [Op.equalIn, run_underlying ht, h3]
    exact this 9999
  | some a =>
    obtain ⟨a', h1, ha⟩ := vr_ptr hx
    cases r with
    | none =>
      have h2 : ev' y = .pointer none := by cases hy' : ev' y <;> rw [hy'] at hy <;> cases hy; rfl
      have hv : v = .bool (if (isNeq op) then !false else false) ∧ H' = H := by
        simp only [nots, Option.map_some, Option.some.injEq, Prod.mk.injEq] at h
        exact ⟨h.1.symm, h.2.symm⟩
      obtain ⟨rfl, rfl⟩ := hv
      refine eq_finish hH op hop t yt x y ho (by rw [h1, h2]; exact g _ _) (by rw [h1, h2]; rfl) (by rw [h1, h2]; rfl) ?_
      rw [h1, h2]
      have : ∀ d, (Op.equalIn (d + 1) t (.pointer (some a')) (.pointer none)).run P w = .ok false w := fun d => by simp [Op.equalIn, run_underlying ht]
      exact this 9999
    | some b =>
      obtain ⟨b', h2, hb⟩ := vr_ptr hy
      simp only at h
      cases hsb : sameBlockEq H a b with
      | none => simp [nots, hsb] at h
      | some r =>
        have hv : v = .bool (if (isNeq op) then !r else r) ∧ H' = H := by
          simp only [hsb, nots, Option.map_some, Option.some.injEq, Prod.mk.injEq] at h
          exact ⟨h.1.symm, h.2.symm⟩
        obtain ⟨rfl, rfl⟩ := hv
        refine eq_finish hH op hop t yt x y ho (by rw [h1, h2]; exact g _ _) ?_ ?_ ?_
        · rw [h1, h2]; rfl
        · rw [h1, h2]; rfl
        · rw [h1, h2]
          have hs := sameBlock_run (P := P) hH ha hb hsb
          have : ∀ d, (Op.equalIn (d + 1) t (.pointer (some a')) (.pointer (some b'))).run P w = .ok r w := fun d => by simp [Op.equalIn, run_underlying ht, sizeOf, typeInfo, hq, he, hs]
          exact this 9999
end
end Go.Det
