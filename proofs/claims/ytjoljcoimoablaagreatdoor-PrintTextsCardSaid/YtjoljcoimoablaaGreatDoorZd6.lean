/-
  Appending: the plain heap and a world.
-/
import Derived.Test.YtjoljcoimoablaaGreatDoorZd5
namespace Go.Det
variable {ρ : Inj} {H : Heap} {w : World}

theorem VR.sliceLen {x x' : Value} (h : VR ρ x x') {n : Nat} (e : sliceLen x = some n) (P : Program) (w : World) : (Builtin.lenOf x').run P w = .ok n w := by
  cases h <;> simp [Det.sliceLen] at e <;> subst e <;> rfl

theorem bytes_take (s : ByteArray) (n : Nat) : ((s.extract 0 n).data.map fun b => Value.int .u8 b.toNat) = ((bytesOfStr s).take n).toArray := by
  apply Array.ext'
  simp [bytesOfStr, ByteArray.extract, ByteArray.copySlice]

theorem elems_run (P : Program) (hH : HeapRel ρ H w) {x x' : Value} (hx : VR ρ x x') {esz n : Nat} {cs : List Value} (h : H.elems esz n x = some cs) :
    ∃ cs', VRL ρ cs cs' ∧ ∀ d, (Builtin.firstCells esz n x').run P { w with drawn := d } = .ok cs'.toArray { w with drawn := d } := by
  cases hx <;> simp [Heap.elems] at h
  case string s =>
    obtain ⟨rfl, rfl⟩ := h
    refine ⟨(bytesOfStr s).take n, ⟨rfl, fun i v v' a b => ?_⟩, fun d => ?_⟩
    · rw [a] at b; cases b
      have hm := List.mem_of_mem_take (List.mem_of_getElem? a)
      simp only [bytesOfStr, List.mem_map] at hm
      obtain ⟨y, _, rfl⟩ := hm
      exact .int _ _
    · simp only [Builtin.firstCells, bytes_take]; rfl
  case slice0 m c =>
    subst h
    exact ⟨[], VRL.nil ρ, fun d => rfl⟩
  case slice a a' m c c' hs =>
    obtain ⟨hsp, hle, I, hI, rfl, _⟩ := hs
    by_cases h0 : n * esz = 0
    · rw [if_pos h0] at h
      cases h
      refine ⟨[], VRL.nil ρ, fun d => ?_⟩
      simp only [Builtin.firstCells, h0]; rfl
    · rw [if_neg h0] at h
      obtain ⟨cs', h1, h2, h3⟩ := look_ok hH ⟨hsp, I, hI, rfl⟩ h
      refine ⟨cs', h1, fun d => ?_⟩
      have := run_loadCells_list (P := P) { w with drawn := d } ⟨I.r, I.o + a.off, none⟩ cs' h3
      simp only [Builtin.firstCells]
      rw [← h1.1, h2] at this
      exact this
  case void a' c' =>
    by_cases h0 : n * esz = 0
    · rw [if_pos h0] at h
      cases h
      refine ⟨[], VRL.nil ρ, fun d => ?_⟩
      simp only [Builtin.firstCells, h0]; rfl
    · rw [if_neg h0] at h
      simp [Heap.look, voidA] at h

/-! ### The real append -/
structure AppT (P : Program) (argTypes : Array TypeId) (e : TypeId) (i : TypeInfo) (z : Value) : Prop where
  ht : ∃ t, argTypes[0]? = some t ∧ P.underlying t = some (.slice e)
  hu : ∃ u d, argTypes[1]? = some u ∧ P.underlying u = some d ∧ (∀ k, d ≠ .int k)
  hi : P.info? e = some i
  hz : i.zero = some z

theorem run_append_zero {P : Program} {argTypes : Array TypeId} {e : TypeId} {i : TypeInfo} {z : Value} (T : AppT P argTypes e i z) (ty : TypeId) (base : Option Addr) (len cap : Nat) (x : Value)
    (hl : (Builtin.lenOf x).run P w = .ok 0 w) (hx : (Builtin.firstCells i.size 0 x).run P w = .ok #[] w) (hle : len ≤ cap) :
    (Builtin.append_ argTypes ty #[.slice base len cap, x]).run P w = .ok (.slice base len cap) w := by
  obtain ⟨t, t1, t2⟩ := T.ht
  obtain ⟨u, d, u1, u2, u3⟩ := T.hu
  have hz : (match d with | .int _ => true | _ => false) = false := by cases d <;> first | rfl | exact absurd rfl (u3 _)
  cases base <;> simp [Builtin.append_, t1, u1, run_underlying t2, run_underlying u2, sizeOf, typeInfo, T.hi, hl, hle, hx, storeCells]

theorem run_append_in {P : Program} {argTypes : Array TypeId} {e : TypeId} {i : TypeInfo} {z : Value} (T : AppT P argTypes e i z) (ty : TypeId) (a : Addr) (len cap n : Nat) (x : Value)
    (hl : (Builtin.lenOf x).run P w = .ok n w) {cs : List Value} (hx : (Builtin.firstCells i.size n x).run P w = .ok cs.toArray w) (hle : len + n ≤ cap)
    {w' : World} (hst : (storeCells (a.add (len * i.size)) cs).run P w = .ok () w') :
    (Builtin.append_ argTypes ty #[.slice (some a) len cap, x]).run P w = .ok (.slice (some a) (len + n) cap) w' := by
  obtain ⟨t, t1, t2⟩ := T.ht
  obtain ⟨u, d, u1, u2, u3⟩ := T.hu
  have hz : (match d with | .int _ => true | _ => false) = false := by cases d <;> first | rfl | exact absurd rfl (u3 _)
  simp [Builtin.append_, t1, u1, run_underlying t2, run_underlying u2, sizeOf, typeInfo, T.hi, hl, hle, hx, hst]

theorem run_append_new {P : Program} {argTypes : Array TypeId} {e : TypeId} {i : TypeInfo} {z : Value} (T : AppT P argTypes e i z) (ty : TypeId) (base : Option Addr) (len cap n : Nat) (x : Value)
    (hl : (Builtin.lenOf x).run P w = .ok n w) {cs old : List Value} (hx : ∀ d, (Builtin.firstCells i.size n x).run P { w with drawn := d } = .ok cs.toArray { w with drawn := d }) (hlt : cap < len + n)
    (ho : ∀ d, (Builtin.firstCells i.size len (.slice base len cap)).run P { w with drawn := d } = .ok old.toArray { w with drawn := d }) (hby : (len + n) * i.bytes ≤ 2 ^ 46) (hsm : len + n ≤ 2 ^ 40) :
    ∃ C more, len + n ≤ C ∧ more.length = (C - (len + n)) * z.cells.size ∧ (Builtin.append_ argTypes ty #[.slice base len cap, x]).run P w =
      .ok (.slice (some ⟨w.heap.size, 0, none⟩) (len + n) C) { w with heap := w.heap.push (.cells (old ++ cs ++ more).toArray e), drawn := w.drawn + 1 } := by
  obtain ⟨t, t1, t2⟩ := T.ht
  obtain ⟨u, d, u1, u2, u3⟩ := T.hu
  have hz : (match d with | .int _ => true | _ => false) = false := by cases d <;> first | rfl | exact absurd rfl (u3 _)
  have hfit : Builtin.nextslicecap (len + n) cap * i.bytes ≤ 281474976710656 := growslice_fits hlt (by omega)
  have hnot : ¬ len + n ≤ cap := by omega
  have h48' : ¬ (281474976710656 < Builtin.nextslicecap (len + n) cap * i.bytes) := by omega
  have h63' : ¬ (9223372036854775807 < ((len : Int) + (n : Int))) := by omega
  have ho' : (Builtin.firstCells i.size len (.slice base len cap)).run P w.drew = .ok old.toArray w.drew := ho (w.drawn + 1)
  have hx' : (Builtin.firstCells i.size n x).run P w.drew = .ok cs.toArray w.drew := hx (w.drawn + 1)
  refine ⟨(Question.appendCap (len + n) cap e).cut (w.tape w.drawn (.appendCap (len + n) cap e)), (Builtin.zeroCells z.cells ((Question.appendCap (len + n) cap e).cut (w.tape w.drawn (.appendCap (len + n) cap e)) - (len + n))).toList, ?_, ?_, ?_⟩
  · simp only [Question.cut]; omega
  · simp [size_zeroCells]
  · simp [Builtin.append_, t1, u1, run_underlying t2, run_underlying u2, sizeOf, typeInfo, zeroValue, T.hi, T.hz, hl, hnot, h63', h48', Question.forced, ho', hx', newRow]
    simp only [World.alloc, World.drew, World.mk.injEq, and_true]
    congr 2
    apply Array.ext'
    simp
end Go.Det
