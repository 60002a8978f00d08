/- Which of the model's operations stands behind one of the V-machine's. -/
import Derived.Test.YtphlgefkcghopaaVmC3
set_option linter.unusedVariables false
set_option linter.unusedSimpArgs false
namespace Go.Vm
attribute [local simp] evalOps_nil evalOps_cons evalOps_consg evalOp_mv evalOp_asg evalOp_pick evalOp_build evalOp_bslice evalOp_load evalOp_nilck evalOp_bin evalOp_un evalOp_conv evalOp_mkfn evalOp_slice evalOp_faddr evalOp_field evalOp_iaddr evalOp_index evalOp_lookup evalOp_extract evalOp_app evalOp_len evalOp_mn evalOp_mx evalOp_alloc evalOp_box evalOp_mkmap evalOp_store evalOp_mapupd evalOp_delete evalOp_sliceArr evalOp_call evalOp_callv evalOp_appc code_skip code_ops code_dops code_seq code_cond code_block code_exit code_ret finish_normal finish_ret
attribute [local simp] V.lt V.ltL V.flat V.pureCell V.pure V.isCell cellEq cellsEq eqV intV shV strV isShift binV unV byteV convV minV maxV foldV foldV1 fillV fillE findV putV delV isKey natOf natOr cut cellsAt mapAt mapOf loadV pickV nilckV sizeOk allSize sliceV faddrV fieldV iaddrV indexV found extractV allPure appV lenV ownHas ownOk storeC storeV samePtr appcV boxable mapupdV deleteV sliceArrV callV allLt clean bodyEnd resV one finishV runV initR
section
variable {P : Program} {op : Op} {ty : TypeId} {gd : VOp}
theorem cnd_eq_some {α : Type} {b : Bool} {x : Option α} {y : α} (h : cnd b x none = some y) : b = true ∧ x = some y := by
  cases b
  · cases h
  · exact ⟨rfl, h⟩

/-- Of what kind an operation is. -/
def opKind : Op → Nat
  | .move _ => 0
  | .assign _ => 1
  | .load _ _ => 2
  | .alloc _ => 3
  | .box _ _ => 4
  | .buildSlice _ _ _ => 5
  | .convert _ _ _ => 6
  | .store _ _ _ => 7
  | .makeMap _ _ => 8
  | .slice _ _ _ _ _ => 9
  | .mapUpdate _ _ _ _ => 10
  | .call c =>
    match c.callee with
    | .value (.func _) => 21
    | .value _ => 22
    | .invoke _ _ => 23
    | .builtin .append => 24
    | .builtin .delete => 25
    | .builtin _ => 26
  | _ => 12
def vopKind : VOp → Nat
  | .mv _ => 0
  | .asg _ => 1
  | .load _ _ _ => 2
  | .alloc _ _ => 3
  | .box _ _ => 4
  | .bslice _ _ _ _ => 5
  | .conv _ _ => 6
  | .store _ _ _ _ _ => 7
  | .mkmap => 8
  | .slice _ _ _ _ _ _ => 9
  | .sliceArr _ _ _ => 9
  | .mapupd _ _ _ _ => 10
  | .call _ _ _ => 21
  | .callv _ _ _ => 22
  | .app _ _ _ _ _ => 24
  | .appc _ _ _ _ _ => 24
  | .delete _ _ _ => 25
  | .len _ _ => 26
  | .mn _ => 26
  | .mx _ => 26
  | _ => 12
theorem trOp_kind {v : VOp} (h : trOp P op ty gd = some v) : opKind op = vopKind v := by
  cases op <;> simp only [trOp, reduceCtorEq] at h
  case move x => obtain ⟨_, _, h⟩ := bnd_eq_some h; cases h; rfl
  case assign x => obtain ⟨_, _, h⟩ := bnd_eq_some h; cases h; rfl
  case pick c x y => obtain ⟨_, _, h⟩ := bnd_eq_some h; obtain ⟨_, _, h⟩ := bnd_eq_some h; obtain ⟨_, _, h⟩ := bnd_eq_some h; cases h; rfl
  case alloc e => split at h <;> (try cases h; done); obtain ⟨_, _, h⟩ := bnd_eq_some h; obtain ⟨_, _, h⟩ := bnd_eq_some h; cases h; rfl
  case box e x => obtain ⟨_, _, h⟩ := bnd_eq_some h; obtain ⟨_, _, h⟩ := bnd_eq_some h; cases h; rfl
  case build t parts =>
    obtain ⟨_, _, h⟩ := bnd_eq_some h; obtain ⟨_, _, h⟩ := bnd_eq_some h
    split at h
    · obtain ⟨_, _, h⟩ := bnd_eq_some h; obtain ⟨_, _, h⟩ := bnd_eq_some h; cases h; rfl
    · obtain ⟨_, _, h⟩ := bnd_eq_some h; obtain ⟨_, _, h⟩ := bnd_eq_some h; cases h; rfl
    · cases h
  case buildSlice t n parts =>
    obtain ⟨_, _, h⟩ := bnd_eq_some h; obtain ⟨_, _, h⟩ := bnd_eq_some h; obtain ⟨_, _, h⟩ := bnd_eq_some h; obtain ⟨_, _, h⟩ := bnd_eq_some h; obtain ⟨_, _, h⟩ := bnd_eq_some h
    split at h <;> cases h
    rfl
  case load t x =>
    obtain ⟨_, _, h⟩ := bnd_eq_some h; obtain ⟨_, _, h⟩ := bnd_eq_some h; obtain ⟨_, _, h⟩ := bnd_eq_some h
    split at h <;> cases h
    rfl
  case store t x y => split at h <;> (try cases h; done); obtain ⟨_, _, h⟩ := bnd_eq_some h; obtain ⟨_, _, h⟩ := bnd_eq_some h; obtain ⟨_, _, h⟩ := bnd_eq_some h; cases h; rfl
  case nilCheck x => obtain ⟨_, _, h⟩ := bnd_eq_some h; cases h; rfl
  case binOp o t x y yt => obtain ⟨_, _, h⟩ := bnd_eq_some h; obtain ⟨_, _, h⟩ := bnd_eq_some h; cases h; rfl
  case unOp o t x => obtain ⟨_, _, h⟩ := bnd_eq_some h; cases h; rfl
  case convert s d x =>
    obtain ⟨_, _, h⟩ := bnd_eq_some h
    split at h
    · cases h; rfl
    · cases h; rfl
    · obtain ⟨_, h⟩ := cnd_eq_some h; cases h; rfl
    · obtain ⟨_, h⟩ := cnd_eq_some h; cases h; rfl
    · cases h
  case makeFunc f first caps =>
    split at h
    · obtain ⟨_, _, h⟩ := bnd_eq_some h; obtain ⟨_, _, h⟩ := bnd_eq_some h; cases h; rfl
    · cases h
  case makeMap t r => split at h <;> cases h; rfl
  case slice t x lo hi mx =>
    obtain ⟨_, _, h⟩ := bnd_eq_some h; obtain ⟨_, _, h⟩ := bnd_eq_some h; obtain ⟨_, _, h⟩ := bnd_eq_some h; obtain ⟨_, _, h⟩ := bnd_eq_some h
    split at h
    · cases h; rfl
    · obtain ⟨_, _, h⟩ := bnd_eq_some h; cases h; rfl
    · split at h
      · obtain ⟨_, _, h⟩ := bnd_eq_some h; cases h; rfl
      · cases h
    · cases h
  case fieldAddr t x f =>
    obtain ⟨_, _, h⟩ := bnd_eq_some h; obtain ⟨_, _, h⟩ := bnd_eq_some h; obtain ⟨_, _, h⟩ := bnd_eq_some h
    split at h <;> cases h
    rfl
  case field t x f =>
    obtain ⟨_, _, h⟩ := bnd_eq_some h; obtain ⟨_, _, h⟩ := bnd_eq_some h; obtain ⟨_, _, h⟩ := bnd_eq_some h; obtain ⟨_, _, h⟩ := bnd_eq_some h
    split at h <;> cases h
    rfl
  case indexAddr t x i =>
    obtain ⟨_, _, h⟩ := bnd_eq_some h; obtain ⟨_, _, h⟩ := bnd_eq_some h
    split at h
    · obtain ⟨_, _, h⟩ := bnd_eq_some h; cases h; rfl
    · obtain ⟨_, _, h⟩ := bnd_eq_some h; cases h; rfl
    · cases h
  case index t x i =>
    obtain ⟨_, _, h⟩ := bnd_eq_some h; obtain ⟨_, _, h⟩ := bnd_eq_some h
    split at h
    · cases h; rfl
    · obtain ⟨_, _, h⟩ := bnd_eq_some h; obtain ⟨_, _, h⟩ := bnd_eq_some h
      split at h <;> cases h
      rfl
    · cases h
  case lookup t x i ok =>
    obtain ⟨_, _, h⟩ := bnd_eq_some h; obtain ⟨_, _, h⟩ := bnd_eq_some h
    split at h
    · obtain ⟨_, _, h⟩ := bnd_eq_some h; obtain ⟨_, _, h⟩ := bnd_eq_some h; obtain ⟨_, _, h⟩ := bnd_eq_some h; cases h; rfl
    · cases h
  case mapUpdate t m k x =>
    split at h
    · obtain ⟨_, _, h⟩ := bnd_eq_some h; obtain ⟨_, _, h⟩ := bnd_eq_some h; obtain ⟨_, _, h⟩ := bnd_eq_some h; obtain ⟨_, _, h⟩ := bnd_eq_some h; cases h; rfl
    · cases h
  case extract x i => obtain ⟨_, _, h⟩ := bnd_eq_some h; cases h; rfl
  case call c =>
    obtain ⟨callee, args, argTypes⟩ := c
    cases callee with
    | value f =>
      cases f <;> simp only at h <;> split at h <;> (try cases h; done) <;> first
        | (obtain ⟨_, _, h⟩ := bnd_eq_some h; cases h; rfl)
        | (obtain ⟨_, _, h⟩ := bnd_eq_some h; obtain ⟨_, _, h⟩ := bnd_eq_some h; cases h; rfl)
    | invoke r m => simp only [reduceCtorEq] at h
    | builtin b =>
      cases b <;> simp only [reduceCtorEq] at h
      case append =>
        split at h <;> (try cases h; done)
        obtain ⟨_, _, h⟩ := bnd_eq_some h; obtain ⟨_, _, h⟩ := bnd_eq_some h; obtain ⟨_, _, h⟩ := bnd_eq_some h; obtain ⟨_, _, h⟩ := bnd_eq_some h
        split at h <;> (try cases h; done)
        split at h <;> (try cases h; done)
        split at h <;> cases h <;> rfl
      case delete =>
        split at h <;> (try cases h; done)
        split at h <;> (try cases h; done)
        obtain ⟨_, _, h⟩ := bnd_eq_some h; obtain ⟨_, _, h⟩ := bnd_eq_some h; obtain ⟨_, _, h⟩ := bnd_eq_some h
        cases h; rfl
      case len =>
        split at h <;> (try cases h; done)
        obtain ⟨_, _, h⟩ := bnd_eq_some h
        split at h
        · cases h; rfl
        · cases h; rfl
        · cases h; rfl
        · cases h; rfl
        · obtain ⟨_, _, h⟩ := bnd_eq_some h; cases h; rfl
        · cases h
      case min => obtain ⟨_, _, h⟩ := bnd_eq_some h; cases h; rfl
      case max => obtain ⟨_, _, h⟩ := bnd_eq_some h; cases h; rfl
theorem kind_call {c : Call} {n : Nat} (h : opKind (.call c) = n) : 21 ≤ n := by
  subst h
  simp only [opKind]
  split <;> omega

theorem trOp_mv {x : Arg} (h : trOp P op ty gd = some (.mv x)) : ∃ y, op = .move y ∧ trArg y = some x := by
  have k := trOp_kind h
  cases op <;> (try (exact absurd (kind_call k) (by simp [vopKind]); done)) <;> (try (simp [opKind, vopKind] at k; done))
  rename_i y
  simp only [trOp] at h
  obtain ⟨x', hx, h⟩ := bnd_eq_some h; cases h; exact ⟨y, rfl, hx⟩
theorem trOp_asg {x : Arg} (h : trOp P op ty gd = some (.asg x)) : ∃ y, op = .assign y ∧ trArg y = some x := by
  have k := trOp_kind h
  cases op <;> (try (exact absurd (kind_call k) (by simp [vopKind]); done)) <;> (try (simp [opKind, vopKind] at k; done))
  rename_i y
  simp only [trOp] at h
  obtain ⟨x', hx, h⟩ := bnd_eq_some h; cases h; exact ⟨y, rfl, hx⟩
theorem trOp_load {b : Bool} {n : Nat} {x : Arg} (h : trOp P op ty gd = some (.load b n x)) : ∃ t y, op = .load t y ∧ aggT P t = some b ∧ sizeT P t = some n ∧ trArg y = some x ∧ (b = true ∨ n = 1) := by
  have k := trOp_kind h
  cases op <;> (try (exact absurd (kind_call k) (by simp [vopKind]); done)) <;> (try (simp [opKind, vopKind] at k; done))
  rename_i t y
  simp only [trOp] at h
  obtain ⟨b', hb, h⟩ := bnd_eq_some h; obtain ⟨n', hn, h⟩ := bnd_eq_some h; obtain ⟨x', hx, h⟩ := bnd_eq_some h
  split at h
  · rename_i hc; cases h; exact ⟨t, y, rfl, hb, hn, hx, hc⟩
  · cases h
theorem trOp_alloc {cs : List V} {own : List (Nat × Nat)} (h : trOp P op ty gd = some (.alloc cs own)) : ∃ e z, op = .alloc e ∧ zeroT P e = some z ∧ trVals z.cells.toList = some cs := by
  have k := trOp_kind h
  cases op <;> (try (exact absurd (kind_call k) (by simp [vopKind]); done)) <;> (try (simp [opKind, vopKind] at k; done))
  rename_i e
  simp only [trOp] at h
  split at h
  · obtain ⟨z, hz, h⟩ := bnd_eq_some h; obtain ⟨cs', hc, h⟩ := bnd_eq_some h
    cases h; exact ⟨e, z, rfl, hz, hc⟩
  · cases h
theorem trOp_box {n : Nat} {x : Arg} (h : trOp P op ty gd = some (.box n x)) : ∃ e y, op = .box e y ∧ sizeT P e = some n ∧ trArg y = some x := by
  have k := trOp_kind h
  cases op <;> (try (exact absurd (kind_call k) (by simp [vopKind]); done)) <;> (try (simp [opKind, vopKind] at k; done))
  rename_i e y
  simp only [trOp] at h
  obtain ⟨n', hn, h⟩ := bnd_eq_some h; obtain ⟨x', hx, h⟩ := bnd_eq_some h
  cases h; exact ⟨e, y, rfl, hn, hx⟩
theorem trOp_bslice {z : V} {k n : Nat} {ps : List (Nat × Arg)} (h : trOp P op ty gd = some (.bslice z k n ps)) :
    ∃ t parts e zv, op = .buildSlice t n parts ∧ sliceT P t = some e ∧ zeroT P e = some zv ∧ trConst zv = some z ∧ sizeT P e = some k ∧ partsE parts.toList = some ps ∧ 0 < k ∧ n * k ≤ 65536 ∧ zv.cells.size = k := by
  have k := trOp_kind h
  cases op <;> (try (exact absurd (kind_call k) (by simp [vopKind]); done)) <;> (try (simp [opKind, vopKind] at k; done))
  rename_i t m parts
  simp only [trOp] at h
  obtain ⟨e, he, h⟩ := bnd_eq_some h; obtain ⟨zv, hz, h⟩ := bnd_eq_some h; obtain ⟨v, hv, h⟩ := bnd_eq_some h; obtain ⟨k', hk, h⟩ := bnd_eq_some h; obtain ⟨ps', hp, h⟩ := bnd_eq_some h
  split at h
  · rename_i hc
    cases h; exact ⟨t, parts, e, zv, rfl, he, hz, hv, hk, hp, hc.1, hc.2.1, hc.2.2⟩
  · cases h
theorem trOp_bytes {x : Arg} (h : trOp P op ty gd = some (.conv .bytesOfStr x)) : ∃ s d e y, op = .convert s d y ∧ P.underlying s = some .string ∧ P.underlying d = some (.slice e) ∧ byteT P e = true ∧ trArg y = some x := by
  have k := trOp_kind h
  cases op <;> (try (exact absurd (kind_call k) (by simp [vopKind]); done)) <;> (try (simp [opKind, vopKind] at k; done))
  rename_i s d y
  simp only [trOp] at h
  obtain ⟨x', hx, h⟩ := bnd_eq_some h
  split at h
  · cases h
  · cases h
  · obtain ⟨_, h⟩ := cnd_eq_some h; cases h
  · rename_i e h1 h2
    obtain ⟨hb, h⟩ := cnd_eq_some h
    cases h; exact ⟨s, d, e, y, rfl, h1, h2, hb, hx⟩
  · cases h
theorem trOp_store {n : Nat} {p x : Arg} {own : List (Nat × Nat)} {q : Option Nat} (h : trOp P op ty gd = some (.store n p x own q)) : ∃ t y z, op = .store t y z ∧ sizeT P t = some n ∧ trArg y = some p ∧ trArg z = some x := by
  have k := trOp_kind h
  cases op <;> (try (exact absurd (kind_call k) (by simp [vopKind]); done)) <;> (try (simp [opKind, vopKind] at k; done))
  rename_i t y z
  simp only [trOp] at h
  split at h
  · obtain ⟨n', hn, h⟩ := bnd_eq_some h; obtain ⟨p', hp, h⟩ := bnd_eq_some h; obtain ⟨x', hx, h⟩ := bnd_eq_some h
    cases h; exact ⟨t, y, z, rfl, hn, hp, hx⟩
  · cases h
theorem trOp_mkmap (h : trOp P op ty gd = some .mkmap) : ∃ t, op = .makeMap t none := by
  have k := trOp_kind h
  cases op <;> (try (exact absurd (kind_call k) (by simp [vopKind]); done)) <;> (try (simp [opKind, vopKind] at k; done))
  rename_i t r
  simp only [trOp] at h
  split at h
  · exact ⟨t, rfl⟩
  · cases h
theorem trOp_sliceArr {n k : Nat} {x : Arg} (h : trOp P op ty gd = some (.sliceArr n k x)) : ∃ t y e, op = .slice t y none none none ∧ P.underlying t = some (.array n e) ∧ sizeT P e = some k ∧ trArg y = some x := by
  have k := trOp_kind h
  cases op <;> (try (exact absurd (kind_call k) (by simp [vopKind]); done)) <;> (try (simp [opKind, vopKind] at k; done))
  rename_i t y lo hi mx
  simp only [trOp] at h
  obtain ⟨x', hx, h⟩ := bnd_eq_some h; obtain ⟨l, hl, h⟩ := bnd_eq_some h; obtain ⟨u, hu, h⟩ := bnd_eq_some h; obtain ⟨m, hm, h⟩ := bnd_eq_some h
  split at h
  · cases h
  · obtain ⟨_, _, h⟩ := bnd_eq_some h; cases h
  · rename_i n e ht
    split at h
    · obtain ⟨k', hk, h⟩ := bnd_eq_some h
      cases h
      have e1 : lo = none := by cases lo with | none => rfl | some o => simp only [trOpt] at hl; obtain ⟨_, _, hl⟩ := bnd_eq_some hl; cases hl
      have e2 : hi = none := by cases hi with | none => rfl | some o => simp only [trOpt] at hu; obtain ⟨_, _, hu⟩ := bnd_eq_some hu; cases hu
      have e3 : mx = none := by cases mx with | none => rfl | some o => simp only [trOpt] at hm; obtain ⟨_, _, hm⟩ := bnd_eq_some hm; cases hm
      subst e1 e2 e3
      exact ⟨t, y, e, rfl, ht, hk, hx⟩
    · cases h
  · cases h
theorem trOp_mapupd {q : SK} {m k v : Arg} (h : trOp P op ty gd = some (.mapupd q m k v)) : ∃ t kt e x y z, op = .mapUpdate t x y z ∧ P.underlying t = some (.map kt e) ∧ keyK P kt = some q ∧ trArg x = some m ∧ trArg y = some k ∧ trArg z = some v := by
  have kk := trOp_kind h
  cases op <;> (try (exact absurd (kind_call kk) (by simp [vopKind]); done)) <;> (try (simp [opKind, vopKind] at kk; done))
  rename_i t x y z
  simp only [trOp] at h
  split at h
  · rename_i kt e ht
    obtain ⟨q', hq, h⟩ := bnd_eq_some h; obtain ⟨m', hm, h⟩ := bnd_eq_some h; obtain ⟨k', hk, h⟩ := bnd_eq_some h; obtain ⟨v', hv, h⟩ := bnd_eq_some h
    cases h; exact ⟨t, kt, e, x, y, z, rfl, ht, hq, hm, hk, hv⟩
  · cases h
theorem toList_two {α : Type} {xs : Array α} {x y : α} (h : xs.toList = [x, y]) : xs = #[x, y] := by apply Array.ext'; simpa using h
theorem trOp_delete {q : SK} {m k : Arg} (h : trOp P op ty gd = some (.delete q m k)) : ∃ x y t ts kt e, op = .call { callee := .builtin .delete, args := #[x, y], argTypes := ts } ∧ ts.toList.head? = some t ∧ P.underlying t = some (.map kt e) ∧ keyK P kt = some q ∧ trArg x = some m ∧ trArg y = some k := by
  have kk := trOp_kind h
  cases op <;> (try (simp [opKind, vopKind] at kk; done))
  rename_i c
  obtain ⟨callee, args, argTypes⟩ := c
  cases callee with
  | value f => exfalso; cases f <;> simp [opKind, vopKind] at kk
  | invoke r m => exfalso; simp [opKind, vopKind] at kk
  | builtin b =>
    cases b <;> (try (simp [opKind, vopKind] at kk; done))
    simp only [trOp] at h
    split at h
    · rename_i x y t tl h1 h2
      split at h
      · rename_i kt e ht
        obtain ⟨q', hq, h⟩ := bnd_eq_some h; obtain ⟨m', hm, h⟩ := bnd_eq_some h; obtain ⟨k', hk, h⟩ := bnd_eq_some h
        cases h
        have e1 := toList_two h1
        subst e1
        exact ⟨x, y, t, argTypes, kt, e, rfl, by rw [h2]; rfl, ht, hq, hm, hk⟩
      · cases h
    · cases h
theorem trOp_call {q : Bool} {f : Nat} {as : List Arg} (h : trOp P op ty gd = some (.call q f as)) : ∃ args ts, op = .call { callee := .value (.func f), args := args, argTypes := ts } ∧ trArgs args.toList = some as := by
  have k := trOp_kind h
  cases op <;> (try (simp [opKind, vopKind] at k; done))
  rename_i c
  obtain ⟨callee, args, argTypes⟩ := c
  cases callee with
  | value f =>
    cases f <;> (try (simp [opKind, vopKind] at k; done))
    simp only [trOp] at h
    split at h
    · obtain ⟨as', ha, h⟩ := bnd_eq_some h
      cases h; exact ⟨args, argTypes, rfl, ha⟩
    · cases h
  | invoke r m => exfalso; simp [opKind, vopKind] at k
  | builtin b => exfalso; cases b <;> simp [opKind, vopKind] at k
theorem trOp_callv {q : Bool} {x : Arg} {as : List Arg} (h : trOp P op ty gd = some (.callv q x as)) : ∃ y args ts, op = .call { callee := .value y, args := args, argTypes := ts } ∧ trArg y = some x ∧ trArgs args.toList = some as := by
  have k := trOp_kind h
  cases op <;> (try (simp [opKind, vopKind] at k; done))
  rename_i c
  obtain ⟨callee, args, argTypes⟩ := c
  cases callee with
  | value f =>
    cases f <;> (try (simp [opKind, vopKind] at k; done)) <;> simp only [trOp] at h <;> split at h <;> first
      | (obtain ⟨x', hx, h⟩ := bnd_eq_some h; obtain ⟨as', ha, h⟩ := bnd_eq_some h; cases h; exact ⟨_, args, argTypes, rfl, hx, ha⟩)
      | cases h
  | invoke r m => exfalso; simp [opKind, vopKind] at k
  | builtin b => exfalso; cases b <;> simp [opKind, vopKind] at k
/-- An append, of either kind. -/
def isAppend (vop : VOp) (size bytes : Nat) (s x : Arg) : Prop := (∃ p, vop = .app p size bytes s x) ∨ ∃ p, vop = .appc p size bytes s x
theorem trOp_app {vop : VOp} {size bytes : Nat} {s x : Arg} (hv : isAppend vop size bytes s x) (h : trOp P op ty gd = some vop) :
    ∃ y y' t e i z, op = .call { callee := .builtin .append, args := #[y, y'], argTypes := #[t, t] } ∧ P.underlying t = some (.slice e) ∧ P.info? e = some i ∧ i.zero = some z ∧ i.size = size ∧ i.bytes = bytes ∧ 0 < size ∧ 0 < bytes ∧ z.cells.size = size ∧ trArg y = some s ∧ trArg y' = some x := by
  have k := trOp_kind h
  have kv : vopKind vop = 24 := by rcases hv with ⟨_, rfl⟩ | ⟨_, rfl⟩ <;> rfl
  rw [kv] at k
  cases op <;> (try (simp [opKind] at k; done))
  rename_i c
  obtain ⟨callee, args, argTypes⟩ := c
  cases callee with
  | value f => exfalso; cases f <;> simp [opKind] at k
  | invoke r m => exfalso; simp [opKind] at k
  | builtin b =>
    cases b <;> (try (simp [opKind] at k; done))
    simp only [trOp] at h
    split at h
    · rename_i y y' t tx h1 h2
      obtain ⟨e, he, g1⟩ := bnd_eq_some h; obtain ⟨i, hi, g2⟩ := bnd_eq_some g1; obtain ⟨a, ha, g3⟩ := bnd_eq_some g2; obtain ⟨b, hb, g4⟩ := bnd_eq_some g3
      clear h g1 g2 g3
      have e1 := toList_two h1
      have e2 := toList_two h2
      clear h1 h2
      subst e1 e2
      split at g4
      · rename_i z e' hz hu
        split at g4
        · rename_i hc
          obtain ⟨c1, c2, h3, h4, h5⟩ := hc
          subst c1 c2
          split at g4
          · cases g4
            rcases hv with ⟨_, hv⟩ | ⟨_, hv⟩ <;> cases hv
            exact ⟨y, y', _, _, i, z, rfl, hu, hi, hz, rfl, rfl, h3, h4, h5, ha, hb⟩
          · cases g4
            rcases hv with ⟨_, hv⟩ | ⟨_, hv⟩ <;> cases hv
            exact ⟨y, y', _, _, i, z, rfl, hu, hi, hz, rfl, rfl, h3, h4, h5, ha, hb⟩
          · cases g4
        · cases g4
      · cases g4
    · cases h
end
end Go.Vm
