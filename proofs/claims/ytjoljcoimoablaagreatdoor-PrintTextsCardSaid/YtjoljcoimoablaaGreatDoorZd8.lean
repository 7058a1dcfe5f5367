/-
  Appending, whole.
-/
import Derived.Test.YtjoljcoimoablaaGreatDoorZd7
namespace Go.Det
variable {ρ : Inj} {H : Heap} {w : World}

theorem append_new_sim (hH : HeapRel ρ H w) {id : Nat} (hid : H.blk.get id = none) {cs cs' : List Value} (hv : VRL ρ cs cs') (more : List Value) (esz : Nat) (ty : TypeId) (d need C : Nat) (anc : List Nat) (hanc : ∀ p ∈ anc, ∃ J, ρ.b p = some J ∧ J.ro = false ∧ J.kind ≠ .box)
    (hn : cs.length = need * esz) (hC : need ≤ C) (hm : more.length = (C - need) * esz) :
    ∃ ρ', VR ρ' (.slice (some ⟨id, 0, none⟩) need need) (.slice (some ⟨w.heap.size, 0, none⟩) need C) ∧
      Sim ρ H w ρ' (H.make id { mkBlk .row esz cs with anc := anc }) { w with heap := w.heap.push (.cells (cs' ++ more).toArray ty), drawn := d } := by
  refine ⟨_, ?_, sim_new hH hid hv more .row esz ty d anc (fun e => absurd rfl e) hanc⟩
  refine .slice ⟨rfl, Nat.le_refl _, _, Inj.with_self, rfl, fun _ => by simp [hn], .inr ⟨rfl, hC, by simp [hn], ?_⟩⟩
  have hl : cs'.length = need * esz := by rw [← hv.1, hn]
  simp only [List.length_append, hl, hm, ← Nat.add_mul]
  have : need + (C - need) = C := by omega
  rw [this]; omega

theorem append_sim (P : Program) {argTypes : Array TypeId} {e : TypeId} {i : TypeInfo} {z : Value} (T : AppT P argTypes e i z) (hzs : z.cells.size = i.size) (ty : TypeId) (hH : HeapRel ρ H w) {id : Nat} (hid : H.blk.get id = none)
    {s s' x x' v : Value} (hs : VR ρ s s') (hx : VR ρ x x') {H' : Heap} (h : H.append id i.size i.bytes s x = some (v, H')) :
    ∃ v' w' ρ', (Builtin.append_ argTypes ty #[s', x']).run P w = .ok v' w' ∧ VR ρ' v v' ∧ Sim ρ H w ρ' H' w' := by
  unfold Heap.append at h
  cases hn : sliceLen x with
  | none => cases s <;> simp [hn] at h
  | some n =>
    have hl := hx.sliceLen hn P w
    have main : ∀ base len cap, s = .slice base len cap → ∃ v' w' ρ', (Builtin.append_ argTypes ty #[s', x']).run P w = .ok v' w' ∧ VR ρ' v v' ∧ Sim ρ H w ρ' H' w' := by
      rintro base len cap rfl
      simp only [hn] at h
      cases hnew : H.elems i.size n x with
      | none => simp [hnew] at h
      | some new =>
        simp only [hnew] at h
        obtain ⟨new', hvn, hrn⟩ := elems_run P hH hx hnew
        by_cases h0 : n = 0
        · subst h0
          rw [if_pos rfl] at h
          by_cases hle : len ≤ cap
          · rw [if_pos hle] at h
            simp only [Option.some.injEq, Prod.mk.injEq] at h
            obtain ⟨rfl, rfl⟩ := h
            have hnil : new' = [] := by
              have : new = [] := by
                cases hx <;> simp [Heap.elems] at hnew
                case string => exact hnew.2
                case slice0 => exact hnew
                case slice => exact hnew
                case void => exact hnew
              have h2 := hvn.1
              rw [this] at h2; exact List.length_eq_zero_iff.1 h2.symm
            have hr0 := hrn w.drawn
            rw [hnil] at hr0
            have hl' : ∃ base' cap', s' = .slice base' len cap' ∧ len ≤ cap' := by
              cases hs with
              | slice0 => exact ⟨none, cap, rfl, hle⟩
              | slice hh => 
                obtain ⟨_, _, I, _, _, _, h5⟩ := hh
                exact ⟨_, _, rfl, by rcases h5 with h5 | ⟨_, h5, _⟩ <;> omega⟩
              | void => exact ⟨_, _, rfl, Nat.zero_le _⟩
            obtain ⟨base', cap', rfl, hle'⟩ := hl'
            exact ⟨_, w, ρ, run_append_zero T ty base' len cap' x' hl hr0 hle', hs, Sim.refl hH⟩
          · rw [if_neg hle] at h; cases h
        rw [if_neg h0] at h
        by_cases hb : (len + n) * i.bytes ≤ 2 ^ 46 ∧ len + n ≤ 2 ^ 40 ∧ 0 < i.size ∧ new.length = n * i.size ∧ new.all cellOk = true
        case neg => rw [if_neg hb] at h; cases h
        rw [if_pos hb] at h
        obtain ⟨hby, hsm, hsz, hnl, hcell⟩ := hb
        -- a new row of its own
        have fresh : ∀ (base' : Option Addr) (cap' : Nat) (old : List Value), s' = .slice base' len cap' → cap' < len + n → H.elems i.size len (.slice base len cap) = some old → old.length = len * i.size → v = .slice (some ⟨id, 0, none⟩) (len + n) (len + n) →
            ∀ (H0 : Heap) (anc : List Nat), HeapRel ρ H0 w → H0.blk.get id = none → H' = H0.make id { mkBlk .row i.size (old ++ new) with anc := anc } → (∀ p ∈ anc, ∃ J, ρ.b p = some J ∧ J.ro = false ∧ J.kind ≠ .box) → Sim ρ H w ρ H0 w →
            ∃ v' w' ρ', (Builtin.append_ argTypes ty #[s', x']).run P w = .ok v' w' ∧ VR ρ' v v' ∧ Sim ρ H w ρ' H' w' := by
          intro base' cap' old hs' hlt hold hol hv H0 anc hH0 hid0 hH' hanc hsim
          obtain ⟨old', hvo, hro⟩ := elems_run P hH hs hold
          rw [hs'] at hro ⊢
          obtain ⟨C, more, hC, hm, hrun⟩ := run_append_new T ty base' len cap' n x' hl hrn hlt hro hby hsm
          rw [hzs] at hm
          obtain ⟨ρ', hvr, hs2⟩ := append_new_sim hH0 hid0 (hvo.append hvn) more i.size e (w.drawn + 1) (len + n) C anc hanc (by rw [List.length_append, hol, hnl, Nat.add_mul]) hC hm
          refine ⟨_, _, ρ', hrun, ?_, ?_⟩
          · rw [hv]; exact hvr
          · rw [hH']
            have : hsim.trans hs2 = hsim.trans hs2 := rfl
            exact hsim.trans hs2
        cases base with
        | none =>
          simp only at h
          by_cases hc0 : cap = 0 ∧ len = 0
          · rw [if_pos hc0] at h
            obtain ⟨rfl, rfl⟩ := hc0
            simp only [Option.some.injEq, Prod.mk.injEq] at h
            obtain ⟨rfl, rfl⟩ := h
            cases hs
            exact fresh none 0 [] rfl (by omega) rfl (by simp) rfl H [] hH hid (by simp [mkBlk]) (fun p hp => by cases hp) (Sim.refl hH)
          · rw [if_neg hc0] at h; cases h
        | some a =>
          simp only at h
          cases hsp : a.spot with
          | some q => simp [hsp] at h
          | none =>
          cases ho : H.elems i.size len (.slice (some a) len cap) with
          | none => simp [ho] at h
          | some old =>
            cases hB : H.blk.get a.block with
            | none => simp [ho, hB] at h
            | some B =>
              simp only [hsp, ho, hB] at h
              by_cases hol : old.length = len * i.size
              case neg => rw [if_pos hol] at h; cases h
              rw [if_neg (fun hh => hh hol)] at h
              cases hs with
              | void a' c' => cases hsp
              | @slice _ a' _ _ c' hh =>
                obtain ⟨_, hlc, I, hI, ha', hcap, hcc⟩ := hh
                have hR := hH.blk _ B I hB hI
                have hroom : len + n ≤ cap → len + n ≤ c' := fun hle => by rcases hcc with e | ⟨_, e, _⟩ <;> omega
                -- all but a box
                have rest : I.kind ≠ .box → B.esz = i.size →
                    (if B.kind = .arr ∧ cap < len + n ∨ B.kind = .row ∧ a.off + cap * i.size < B.size ∧ cap < len + n then some (Value.slice (some ⟨id, 0, none⟩) (len + n) (len + n), H.make id (mkBlk .row i.size (old ++ new)))
                      else if B.ro = false ∧ B.ext = true ∧ (B.kind = .arr ∨ len = cap ∧ B.size ≤ a.off + len * i.size) ∧ a.off + len * i.size ≤ B.size then
                        some (Value.slice (some ⟨id, 0, none⟩) (len + n) (len + n), ({ H with blk := H.blk.set a.block { B with size := a.off + len * i.size, ext := false } } : Heap).make id { mkBlk .row i.size (old ++ new) with anc := a.block :: B.anc })
                      else none) = some (v, H') →
                    ∃ v' w' ρ', (Builtin.append_ argTypes ty #[.slice (some a') len c', x']).run P w = .ok v' w' ∧ VR ρ' v v' ∧ Sim ρ H w ρ' H' w' := by
                  intro hkb hez h
                  have hezI : I.esz = i.size := by rw [← hR.esz]; exact hez
                  by_cases h1 : B.kind = .arr ∧ cap < len + n ∨ B.kind = .row ∧ a.off + cap * i.size < B.size ∧ cap < len + n
                  · rw [if_pos h1] at h
                    simp only [Option.some.injEq, Prod.mk.injEq] at h
                    obtain ⟨rfl, rfl⟩ := h
                    refine fresh (some a') c' old rfl ?_ ho hol rfl H [] hH hid (by simp [mkBlk]) (fun p hp => by cases hp) (Sim.refl hH)
                    rcases h1 with ⟨h1, h2⟩ | ⟨h1, h2, h3⟩
                    · rcases hcc with e | ⟨e, _⟩
                      · omega
                      · rw [← hR.kind, h1] at e; cases e
                    · rcases hcc with e | ⟨_, _, e, _⟩
                      · omega
                      · rw [hezI] at e; have := hR.size; omega
                  · rw [if_neg h1] at h
                    by_cases h2 : B.ro = false ∧ B.ext = true ∧ (B.kind = .arr ∨ len = cap ∧ B.size ≤ a.off + len * i.size) ∧ a.off + len * i.size ≤ B.size
                    case neg => rw [if_neg h2] at h; cases h
                    rw [if_pos h2] at h
                    simp only [Option.some.injEq, Prod.mk.injEq] at h
                    obtain ⟨rfl, rfl⟩ := h
                    obtain ⟨hro, hext, htip, hend⟩ := h2
                    have hroI : I.ro = false := by rw [← hR.ro]; exact hro
                    have hanc : ∀ p ∈ a.block :: B.anc, ∃ J, ρ.b p = some J ∧ J.ro = false ∧ J.kind ≠ .box := fun p hp => by
                      simp only [List.mem_cons] at hp
                      rcases hp with rfl | hp
                      · exact ⟨I, hI, hroI, hkb⟩
                      · exact hH.anc _ B I p hB hI hp
                    by_cases hin : len + n ≤ c'
                    · -- in place
                      have hlo : H.look a (len * i.size) = some old ∨ (len * i.size = 0 ∧ old = []) := by
                        simp only [Heap.elems] at ho
                        by_cases hz : len * i.size = 0
                        · rw [if_pos hz] at ho; cases ho; exact .inr ⟨hz, rfl⟩
                        · rw [if_neg hz] at ho; exact .inl ho
                      have hmulc : (len + n) * i.size ≤ c' * i.size := Nat.mul_le_mul_right _ hin
                      have hfit : I.o + a.off + (len + n) * i.size ≤ I.cs := by
                        have hfs := hR.fits
                        rcases hcc with e | ⟨_, _, _, e⟩
                        · have := hcap hkb; rw [hezI] at this; rw [e] at hmulc; omega
                        · rw [hezI] at e; omega
                      obtain ⟨w', hst, hsim⟩ := sim_grow P hH hid hB hI hkb hroI hext (len := len) (n := n) (esz := i.size) hlo hsp hvn hnl hcell hend (by
                        rcases htip with h | h
                        · exact .inl (by rw [← hR.kind]; exact h)
                        · exact .inr h.2) hfit
                      refine ⟨_, w', _, run_append_in T ty a' len c' n x' hl (hrn w.drawn) hin (by rw [ha']; exact hst), ?_, hsim⟩
                      rw [ha']
                      refine .slice ⟨rfl, Nat.le_refl _, _, Inj.with_self, rfl, fun _ => by simp, ?_⟩
                      by_cases hce : c' = len + n
                      · exact .inl hce
                      · refine .inr ⟨rfl, hin, by simp, ?_⟩
                        simp only [Nat.add_zero]
                        have hfs := hR.fits
                        rcases hcc with e | ⟨_, _, _, e⟩
                        · have := hcap hkb; rw [hezI] at this; rw [e]; omega
                        · rw [hezI] at e; omega
                    · -- a new row
                      have hid' : (H.blk.set a.block { B with size := a.off + len * i.size, ext := false }).get id = none := by
                        rw [PM.get_set_ne _ _ (fun e => by rw [e, hid] at hB; cases hB)]; exact hid
                      exact fresh (some a') c' old rfl (by omega) ho hol rfl _ (a.block :: B.anc) (sim_shrink hH hB hI hkb hend) hid' rfl hanc (Sim.of_shrink hH hB hI hkb hend)
                cases hk : B.kind with
                | box =>
                  simp only [hk] at h
                  by_cases hle : len + n ≤ cap
                  · rw [if_pos hle] at h; cases h
                  · rw [if_neg hle] at h
                    simp only [Option.some.injEq, Prod.mk.injEq] at h
                    obtain ⟨rfl, rfl⟩ := h
                    refine fresh (some a') c' old rfl ?_ ho hol rfl H [] hH hid (by simp [mkBlk]) (fun p hp => by cases hp) (Sim.refl hH)
                    rcases hcc with e | ⟨e, _⟩
                    · omega
                    · rw [← hR.kind, hk] at e; cases e
                | arr =>
                  have hkb : I.kind ≠ .box := by rw [← hR.kind, hk]; simp
                  rw [hk] at h
                  simp only at h
                  by_cases hez : B.esz = i.size
                  · rw [if_pos hez] at h
                    refine rest hkb hez ?_
                    simp only [hk]
                    exact h
                  · rw [if_neg hez] at h; cases h
                | row =>
                  have hkb : I.kind ≠ .box := by rw [← hR.kind, hk]; simp
                  rw [hk] at h
                  simp only at h
                  by_cases hez : B.esz = i.size
                  · rw [if_pos hez] at h
                    refine rest hkb hez ?_
                    simp only [hk]
                    exact h
                  · rw [if_neg hez] at h; cases h
    cases s with
    | slice base len cap => exact main base len cap rfl
    | _ => simp at h
end Go.Det
