/-
  One operation that is no call of a function: all of them.
-/
import Derived.Test.YtjoljcoimoablaaGreatDoorZd16
namespace Go.Det
variable {ρ : Inj} {H : Heap} {w : World}
section
variable {P : Program} {ev ev' : Operand → Value} {id : Nat} {v : Value} {H' : Heap} {o : Oper}

theorem evalOp_fail (h : evalOp ev H id .fail = some (v, H')) : False := by simp [evalOp] at h

theorem convBin_sim (hH : HeapRel ρ H w) {E : List TypeId} (hE : EqTypes P E) (op : BinOp) (t yt : TypeId) (x y : Operand) (hx : VR ρ (ev x) (ev' x)) (hy : VR ρ (ev y) (ev' y)) (ho : o.op = .binOp op t x y yt)
    (h : evalOp ev H id (convBin P E op t x y) = some (v, H')) : OpSim P ρ H w ev' o v H' := by
  unfold convBin at h
  have hop : isEq op = true → op = .eql ∨ op = .neq := by cases op <;> simp [isEq]
  cases ht : P.underlying t with
  | none => simp only [ht] at h; exact (evalOp_fail h).elim
  | some d =>
    cases d <;> simp only [ht] at h <;> (try exact (evalOp_fail h).elim)
    case bool =>
      split at h
      · rename_i hq; exact sim_eqBool hH op t yt (hop hq) ht x y hx hy ho h
      · exact (evalOp_fail h).elim
    case int k => exact sim_bin hH op t yt x y hx hy ho h
    case string => exact sim_bin hH op t yt x y hx hy ho h
    case pointer e =>
      split at h
      · rename_i hq
        simp only [Bool.and_eq_true, bne_iff_ne] at hq
        exact sim_eqPtr hH op (hop hq.1) t yt e ht hq.2 x y hx hy ho h
      · exact (evalOp_fail h).elim
    case slice e =>
      split at h
      · rename_i hq; exact sim_eqNilSlice hH op (hop hq) t yt e ht x y hx hy ho h
      · exact (evalOp_fail h).elim
    case struct fs =>
      split at h
      · rename_i hq
        simp only [Bool.and_eq_true, Bool.not_eq_true'] at hq
        cases hl : leavesOf P t with
        | none => simp only [hl] at h; exact (evalOp_fail h).elim
        | some l => simp only [hl] at h; exact sim_eqAgg hH op (hop hq.1) t yt hq.2 hl x y hx hy ho h
      · exact (evalOp_fail h).elim
    case interface ms =>
      split at h
      · rename_i hq; exact sim_eqIface hH hE op (hop hq) t yt ht x y hx hy ho h
      · exact (evalOp_fail h).elim

theorem convConv_sim (hH : HeapRel ρ H w) (hid : H.blk.get id = none) (s t : TypeId) (x : Operand) (hx : VR ρ (ev x) (ev' x)) (ho : o.op = .convert s t x)
    (h : evalOp ev H id (convConv P s t x) = some (v, H')) : OpSim P ρ H w ev' o v H' := by
  unfold convConv at h
  cases hs : P.underlying s with
  | none => simp only [hs] at h; exact (evalOp_fail h).elim
  | some d =>
    cases ht : P.underlying t with
    | none => cases d <;> (simp only [hs, ht] at h; exact (evalOp_fail h).elim)
    | some d2 =>
      cases d <;> simp only [hs, ht] at h <;> (try exact (evalOp_fail h).elim)
      case int j =>
        cases d2 <;> simp only at h <;> (try exact (evalOp_fail h).elim)
        case int k => exact sim_convInt hH k s t j hs ht x hx ho h
        case string => exact sim_intToStr hH s t j hs ht x hx ho h
      case string =>
        cases d2 <;> simp only at h <;> (try exact (evalOp_fail h).elim)
        case string => exact sim_strStr hH s t hs ht x hx ho h
        case slice e =>
          split at h
          · rename_i he; exact sim_strToBytes hH hid s t e hs ht he x hx ho h
          · exact (evalOp_fail h).elim
      case slice e =>
        cases d2 <;> simp only at h <;> (try exact (evalOp_fail h).elim)
        case string =>
          split at h
          · rename_i he; exact sim_bytesToStr hH s t e hs he ht x hx ho h
          · exact (evalOp_fail h).elim

theorem convBuiltin_sim (hH : HeapRel ρ H w) (hid : H.blk.get id = none) (b : Builtin) (args : Array Operand) (argTypes : Array TypeId) (hx : ∀ x ∈ args, VR ρ (ev x) (ev' x)) (ho : o.op = .call { callee := .builtin b, args, argTypes })
    (h : evalOp ev H id (convCall P { callee := .builtin b, args, argTypes }) = some (v, H')) : OpSim P ρ H w ev' o v H' := by
  have hm : ∀ {i : Nat} {x}, args[i]? = some x → VR ρ (ev x) (ev' x) := fun h => hx _ (Array.mem_of_getElem? h)
  unfold convCall at h
  cases b <;> simp only at h <;> (try exact (evalOp_fail h).elim)
  case append =>
    cases h1 : argTypes[0]? with
    | none => simp only [h1] at h; exact (evalOp_fail h).elim
    | some t =>
      cases h2 : argTypes[1]? with
      | none => simp only [h1, h2] at h; exact (evalOp_fail h).elim
      | some u =>
        cases h3 : args[0]? with
        | none => simp only [h1, h2, h3] at h; exact (evalOp_fail h).elim
        | some s =>
          cases h4 : args[1]? with
          | none => simp only [h1, h2, h3, h4] at h; exact (evalOp_fail h).elim
          | some x =>
            simp only [h1, h2, h3, h4] at h
            cases ht : P.underlying t with
            | none => simp only [ht] at h; exact (evalOp_fail h).elim
            | some d =>
              cases hu : P.underlying u with
              | none => cases d <;> (simp only [ht, hu] at h; exact (evalOp_fail h).elim)
              | some d2 =>
                cases d <;> simp only [ht, hu] at h <;> (try exact (evalOp_fail h).elim)
                rename_i e
                have hd2 : (∀ k, d2 ≠ .int k) ∧ ∃ z, zeroOf P e = some z ∧ z.cells.size = P.cellsOf e ∧ args.size = 2 ∧ evalOp ev H id (.append (P.cellsOf e) (P.bytesOf e) s x) = some (v, H') := by
                  cases d2 <;> simp only at h <;> (try exact (evalOp_fail h).elim)
                  all_goals
                    cases hz : zeroOf P e with
                    | none => simp only [hz] at h; exact (evalOp_fail h).elim
                    | some z =>
                      simp only [hz] at h
                      split at h
                      · rename_i hq
                        exact ⟨fun k => by simp, z, rfl, hq.1, hq.2, h⟩
                      · exact (evalOp_fail h).elim
                obtain ⟨hd, z, hz, hzs, hsz, h⟩ := hd2
                exact sim_append hH hid argTypes args h1 h2 h3 h4 hsz ht hu hd hz hzs (hm h3) (hm h4) ho h
  case copy =>
    cases h1 : argTypes[0]? with
    | none => simp only [h1] at h; exact (evalOp_fail h).elim
    | some t =>
      cases h3 : args[0]? with
      | none => simp only [h1, h3] at h; exact (evalOp_fail h).elim
      | some s =>
        cases h4 : args[1]? with
        | none => simp only [h1, h3, h4] at h; exact (evalOp_fail h).elim
        | some x =>
          simp only [h1, h3, h4] at h
          cases ht : P.underlying t with
          | none => simp only [ht] at h; exact (evalOp_fail h).elim
          | some d =>
            cases d <;> simp only [ht] at h <;> (try exact (evalOp_fail h).elim)
            rename_i e
            split at h
            · rename_i hi
              obtain ⟨q, hq⟩ := Option.isSome_iff_exists.1 hi
              exact sim_copy hH argTypes args h1 h3 h4 ht hq (hm h3) (hm h4) ho h
            · exact (evalOp_fail h).elim
  case len =>
    cases h1 : argTypes[0]? with
    | none => simp only [h1] at h; exact (evalOp_fail h).elim
    | some t =>
      cases h3 : args[0]? with
      | none => simp only [h1, h3] at h; exact (evalOp_fail h).elim
      | some x =>
        simp only [h1, h3] at h
        cases ht : P.underlying t with
        | none => simp only [ht] at h; exact (evalOp_fail h).elim
        | some d =>
          cases d <;> simp only [ht] at h <;> (try exact (evalOp_fail h).elim)
          case string => exact sim_lenStr hH argTypes args h1 h3 ht (hm h3) ho h
          case slice e => exact sim_lenSl hH argTypes args h1 h3 ht (hm h3) ho h
  case max => exact sim_extreme hH true argTypes args hx ho h
  case min => exact sim_extreme hH false argTypes args hx ho h

/-- An operation that is a call of a function of Go's text. -/
def isCall : DOp → Bool
  | .call .. => true
  | _ => false

theorem aggN_some {t : TypeId} {d : TypeDesc} (h : P.underlying t = some d) : ∃ n, aggN P t = some n := by
  unfold aggN; simp only [h]; split <;> exact ⟨_, rfl⟩

theorem op_sim (hH : HeapRel ρ H w) {E : List TypeId} (hE : EqTypes P E) (hid : H.blk.get id = none) (hidm : H.mp.get id = none) (hev : ∀ x ∈ o.op.operands, VR ρ (ev x) (ev' x)) (h : evalOp ev H id (convOp P E o.op) = some (v, H')) : OpSim P ρ H w ev' o v H' := by
  generalize ho : o.op = op at h hev
  cases op <;> simp only [convOp] at h <;> simp only [Op.operands] at hev <;> (try exact (evalOp_fail h).elim)
  case move x => exact sim_move hH x (hev x (by simp)) (.inl ho) h
  case assign x => exact sim_move hH x (hev x (by simp)) (.inr ho) h
  case pick c a b => exact sim_pick hH c a b (hev c (by simp)) (hev a (by simp)) (hev b (by simp)) ho h
  case alloc e =>
    cases hz : zeroOf P e with
    | none => simp only [hz] at h; exact (evalOp_fail h).elim
    | some z => simp only [hz] at h; exact sim_new_op hH hid e hz ho h
  case box e x => exact sim_box hH hid e x (hev x (by simp)) ho h
  case build t parts =>
    cases hz : zeroOf P t with
    | none => simp only [hz] at h; exact (evalOp_fail h).elim
    | some z =>
      cases hp : places P t parts with
      | none => simp only [hz, hp] at h; exact (evalOp_fail h).elim
      | some ps =>
        simp only [hz, hp] at h
        exact sim_build hH t hz parts hp (fun q hq => hev q.2 (by simp; exact ⟨q.1, hq⟩)) ho h
  case buildSlice t len parts =>
    cases ht : P.underlying t with
    | none => simp only [ht] at h; exact (evalOp_fail h).elim
    | some d =>
      cases d <;> simp only [ht] at h <;> (try exact (evalOp_fail h).elim)
      rename_i e
      cases hz : zeroOf P e with
      | none => simp only [hz] at h; exact (evalOp_fail h).elim
      | some z =>
        simp only [hz] at h
        split at h
        · rename_i hc
          exact sim_buildSlice hH hid t e ht hz len hc.1 hc.2.1 hc.2.2 parts (fun q hq => hev q.2 (by simp; exact ⟨q.1, hq⟩)) ho h
        · exact (evalOp_fail h).elim
  case load t a =>
    cases hn : aggN P t with
    | none => simp only [hn] at h; exact (evalOp_fail h).elim
    | some n => simp only [hn] at h; exact sim_load hH t hn a (hev a (by simp)) ho h
  case store t a x =>
    split at h
    · rename_i hi
      obtain ⟨q, hq⟩ := Option.isSome_iff_exists.1 hi
      exact sim_store hH t hq a x (hev a (by simp)) (hev x (by simp)) ho h
    · exact (evalOp_fail h).elim
  case nilCheck x => exact sim_nilCheck hH x (hev x (by simp)) ho h
  case binOp op t x y yt => exact convBin_sim hH hE op t yt x y (hev x (by simp)) (hev y (by simp)) ho h
  case unOp op t x => exact sim_un hH op t x (hev x (by simp)) ho h
  case convert s t x => exact convConv_sim hH hid s t x (hev x (by simp)) ho h
  case makeInterface t x =>
    cases ht : P.underlying t with
    | none => simp only [ht] at h; exact (evalOp_fail h).elim
    | some d =>
      cases d <;> simp only [ht] at h <;> (try exact (evalOp_fail h).elim) <;> exact sim_iface hH t ht (fun ms => by simp) x (hev x (by simp)) ho h
  case makeFunc fn a b =>
    cases fn <;> simp only at h <;> (try exact (evalOp_fail h).elim)
    rename_i f
    exact sim_func hH f a b (fun x hx => hev x (by simp [hx])) (fun x hx => hev x (by simp [hx])) ho h
  case makeMap t r =>
    cases r <;> simp only at h <;> (try exact (evalOp_fail h).elim)
    exact sim_makeMap hH hidm t ho h
  case makeSlice t l c =>
    cases ht : P.underlying t with
    | none => simp only [ht] at h; exact (evalOp_fail h).elim
    | some d =>
      cases d <;> simp only [ht] at h <;> (try exact (evalOp_fail h).elim)
      rename_i e
      cases hz : zeroOf P e with
      | none => simp only [hz] at h; exact (evalOp_fail h).elim
      | some z =>
        simp only [hz] at h
        split at h
        · rename_i hc
          exact sim_makeSlice hH hid t e ht hz hc l c (hev l (by simp)) (hev c (by simp)) ho h
        · exact (evalOp_fail h).elim
  case slice t x lo hi mx =>
    cases mx <;> simp only at h <;> (try exact (evalOp_fail h).elim)
    have hlo : ∀ y ∈ lo, VR ρ (ev y) (ev' y) := fun y hy => hev y (by cases hy; simp)
    have hhi : ∀ y ∈ hi, VR ρ (ev y) (ev' y) := fun y hy => hev y (by cases hy; simp)
    cases ht : P.underlying t with
    | none => simp only [ht] at h; exact (evalOp_fail h).elim
    | some d =>
      cases d <;> simp only [ht] at h <;> (try exact (evalOp_fail h).elim)
      case string => exact sim_sliceStr hH t ht x lo hi (hev x (by simp)) hlo hhi ho h
      case slice e =>
        split at h
        · rename_i hc
          obtain ⟨q, hq⟩ := Option.isSome_iff_exists.1 hc.1
          exact sim_sliceSl hH t e ht hq hc.2 x lo hi (hev x (by simp)) hlo hhi ho h
        · exact (evalOp_fail h).elim
      case array n e =>
        split at h
        · rename_i hc
          obtain ⟨q, hq⟩ := Option.isSome_iff_exists.1 hc.1
          exact sim_sliceArr hH t e n ht hq x lo hi (hev x (by simp)) hlo hhi ho h
        · exact (evalOp_fail h).elim
  case fieldAddr s x i =>
    cases hf : fieldOf P s i with
    | none => simp only [hf] at h; exact (evalOp_fail h).elim
    | some f =>
      simp only [hf] at h
      split at h
      · exact (evalOp_fail h).elim
      · rename_i h0; exact sim_fieldAddr hH s i hf h0 x (hev x (by simp)) ho h
  case field s x i =>
    cases hf : fieldOf P s i with
    | none => simp only [hf] at h; exact (evalOp_fail h).elim
    | some f =>
      simp only [hf] at h
      cases hn : aggN P f.type with
      | none => simp only [hn] at h; exact (evalOp_fail h).elim
      | some n => simp only [hn] at h; exact sim_field hH s i hf hn x (hev x (by simp)) ho h
  case indexAddr t x i =>
    cases ht : P.underlying t with
    | none => simp only [ht] at h; exact (evalOp_fail h).elim
    | some d =>
      cases d <;> simp only [ht] at h <;> (try exact (evalOp_fail h).elim)
      case array n e =>
        split at h
        · rename_i hc
          obtain ⟨q, hq⟩ := Option.isSome_iff_exists.1 hc
          exact sim_idxArr hH t e n ht hq x i (hev x (by simp)) (hev i (by simp)) ho h
        · exact (evalOp_fail h).elim
      case slice e =>
        split at h
        · rename_i hc
          obtain ⟨q, hq⟩ := Option.isSome_iff_exists.1 hc
          exact sim_idxSl hH t e ht hq x i (hev x (by simp)) (hev i (by simp)) ho h
        · exact (evalOp_fail h).elim
  case index t x i =>
    cases ht : P.underlying t with
    | none => simp only [ht] at h; exact (evalOp_fail h).elim
    | some d =>
      cases d <;> simp only [ht] at h <;> (try exact (evalOp_fail h).elim)
      case array n e =>
        cases hn : aggN P e with
        | none => simp only [hn] at h; exact (evalOp_fail h).elim
        | some k => simp only [hn] at h; exact sim_indexArr hH t e n ht hn x i (hev x (by simp)) (hev i (by simp)) ho h
      case string => exact sim_indexStr hH t ht x i (hev x (by simp)) (hev i (by simp)) ho h
  case lookup t m k ok =>
    cases ht : P.underlying t with
    | none => simp only [ht] at h; exact (evalOp_fail h).elim
    | some d =>
      cases d <;> simp only [ht] at h <;> (try exact (evalOp_fail h).elim)
      rename_i kt e
      cases hkt : P.underlying kt with
      | none => simp only [hkt] at h; exact (evalOp_fail h).elim
      | some d2 =>
        cases hz : zeroOf P e with
        | none => cases d2 <;> (simp only [hkt, hz] at h; exact (evalOp_fail h).elim)
        | some z =>
          cases d2 <;> simp only [hkt, hz] at h <;> (try exact (evalOp_fail h).elim)
          exact sim_lookup hH t kt e ht hkt hz ok m k (hev m (by simp)) (hev k (by simp)) ho h
  case mapUpdate t m k x =>
    cases ht : P.underlying t with
    | none => simp only [ht] at h; exact (evalOp_fail h).elim
    | some d =>
      cases d <;> simp only [ht] at h <;> (try exact (evalOp_fail h).elim)
      rename_i kt e
      cases hkt : P.underlying kt with
      | none => simp only [hkt] at h; exact (evalOp_fail h).elim
      | some d2 =>
        cases d2 <;> simp only [hkt] at h <;> (try exact (evalOp_fail h).elim)
        exact sim_mapUpdate hH t kt e ht hkt m k x (hev m (by simp)) (hev k (by simp)) (hev x (by simp)) ho h
  case typeAssert x xt t ok =>
    cases ok <;> simp only at h <;> (try exact (evalOp_fail h).elim)
    cases ht : P.underlying t with
    | none => simp only [ht] at h; exact (evalOp_fail h).elim
    | some d =>
      cases hz : zeroOf P t with
      | none => cases d <;> (simp only [ht, hz] at h; exact (evalOp_fail h).elim)
      | some z =>
        cases d <;> simp only [ht, hz] at h <;> (try exact (evalOp_fail h).elim) <;> exact sim_assertT hH xt t ht (fun ms => by simp) hz x (hev x (by simp)) ho h
  case extract x i => exact sim_extract hH i x (hev x (by simp)) ho h
  case call c =>
    obtain ⟨callee, args, argTypes⟩ := c
    cases callee with
    | value f =>
      exfalso
      unfold convCall at h
      cases f <;> simp only at h <;> simp [evalOp] at h
    | invoke r m => exact (evalOp_fail (by simpa only [convCall] using h)).elim
    | builtin b => exact convBuiltin_sim hH hid b args argTypes (fun x hx => hev x (by simp [Call.operands, hx])) ho h
end
end Go.Det
