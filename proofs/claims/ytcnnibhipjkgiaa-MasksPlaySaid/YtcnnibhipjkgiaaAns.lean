/-
  What a form answers, asked through the interface.
-/
import Derived.Test.YtcnnibhipjkgiaaCount
namespace Go.Proofs.Ytcnnibhipjkgiaa
open Go.RowKit Go.Deep

theorem none_at {w : World} (i : Nat) :
    Calls Try.prog 46 #[.agg #[], .int .u64 i] w fun e w' => e = .returned (.bool false) ∧ Fr (fun _ => False) w w' := by
  go_enter Try.func46, Try.ntmps46
  go_wp2
  go_ret
  exact ⟨rfl, (Fr.refl _ w).alloc _⟩

theorem none_count {w : World} (i j : Nat) :
    Calls Try.prog 47 #[.agg #[], .int .u64 i, .int .u64 j] w fun e w' => e = .returned (.int .u64 0) ∧ Fr (fun _ => False) w w' := by
  go_enter Try.func47, Try.ntmps47
  go_wp2
  go_ret
  exact ⟨rfl, (Fr.refl _ w).alloc _⟩

/-- v answers z to a method's call, and keeps what is there -/
def Ans (w : World) (v : Value) (name : String) (args : Array Value) (z : Value) : Prop :=
  ∃ g xs, (∀ w, (callMethod v name args).run Try.prog w = .ok (.enter g xs) w) ∧ Calls Try.prog g xs w (fun e w' => e = .returned z ∧ Fr (fun _ => False) w w')

theorem form_at {F : Nat → Prop} {w : World} {v : Value} {f : Fm} (h : FormAt F w v f) (i : Nat) (hi : i ≤ 35184372088832) : Ans w v "mallow/masks.at" #[.int .u64 i] (.bool (f.at i)) := by
  cases f with
  | none =>
    obtain rfl := h
    refine ⟨46, #[.agg #[], .int .u64 i], fun _ => by kernel_rfl, none_at i⟩
  | place bs =>
    obtain ⟨a, c, rfl, h1, h2⟩ := h
    refine ⟨48, #[.slice a bs.length c, .int .u64 i], fun _ => by kernel_rfl, (place_at h1.1 h2 i hi).mono ?_⟩
    rintro e w1 ⟨rfl, rfl⟩
    exact ⟨rfl, Fr.refl _ _⟩
  | things bs n =>
    obtain ⟨a, c, a', c', rfl, h1, h2, h3, h4, h5⟩ := h
    exact ⟨50, #[tagg a bs.length c a' c' n, .int .u64 i], fun _ => by unfold tagg; kernel_rfl, things_at h1.1 h3 h4 h5 i hi⟩

theorem form_count {F : Nat → Prop} {w : World} {v : Value} {f : Fm} (h : FormAt F w v f) (i j : Nat) (hij : i ≤ j) (hj : j ≤ 35184372088832) : Ans w v "mallow/masks.count" #[.int .u64 i, .int .u64 j] (.int .u64 (cnt f.at i j : Nat)) := by
  cases f with
  | none =>
    obtain rfl := h
    refine ⟨47, #[.agg #[], .int .u64 i, .int .u64 j], fun _ => by kernel_rfl, (none_count i j).mono ?_⟩
    rintro e w1 ⟨rfl, hf⟩
    exact ⟨by rw [cnt_false (p := Fm.at .none) (fun _ _ _ => rfl)]; rfl, hf⟩
  | place bs =>
    obtain ⟨a, c, rfl, h1, h2⟩ := h
    refine ⟨49, #[.slice a bs.length c, .int .u64 i, .int .u64 j], fun _ => by kernel_rfl, (place_count h1.1 h2 i j hij hj).mono ?_⟩
    rintro e w1 ⟨rfl, rfl⟩
    exact ⟨rfl, Fr.refl _ _⟩
  | things bs n =>
    obtain ⟨a, c, a', c', rfl, h1, h2, h3, h4, h5⟩ := h
    exact ⟨51, #[tagg a bs.length c a' c' n, .int .u64 i, .int .u64 j], fun _ => by unfold tagg; kernel_rfl, things_count h1.1 h2.1 h3 h4 h5 i j hij hj⟩

section
variable {w : World} {a : Act} {K : Act → World → Prop} {Q : Exit → Act → World → Prop} {o : Oper} {ops : Array Oper} {rest : List Oper}
theorem wp_invoke1 (x y : Operand) (name : String) (ts : Array TypeId) (ho : o.op = .call { callee := .invoke x name, args := #[y], argTypes := ts }) {v u z : Value} (hx : a.eval x = v) (hy : a.eval y = u) (h : Ans w v name #[u] z)
    (hK : ∀ w', Fr (fun _ => False) w w' → K (a.put o.dst z) w') : o.wp Try.prog a w K Q := by
  obtain ⟨g, xs, hr, hc⟩ := h
  unfold Oper.wp
  simp only [execOp, ho, resolve, hx, hy, List.map_toArray, List.map_cons, List.map_nil, Sem.run_bind, Sem.run_pure, Result.andThen, invoke]
  have e : (callMethod v name ((#[v] ++ #[u]).extract 1 (#[v] ++ #[u]).size)).run Try.prog w = .ok (.enter g xs) w := hr w
  rw [show (#[v] ++ [u].toArray : Array Value)[0]? = some v from rfl]
  simp only
  erw [e]
  rw [Oper.upon_enter]
  refine hc.mono ?_
  rintro e' w' ⟨rfl, hf⟩
  exact hK w' hf
theorem wpList_invoke1 (hgd : o.guard = none) (x y : Operand) (name : String) (ts : Array TypeId) (ho : o.op = .call { callee := .invoke x name, args := #[y], argTypes := ts }) {v u z : Value} (hx : a.eval x = v) (hy : a.eval y = u) (h : Ans w v name #[u] z)
    (hK : ∀ w', Fr (fun _ => False) w w' → wpList Try.prog ops Q rest (a.put o.dst z) w') : wpList Try.prog ops Q (o :: rest) a w :=
  wpList_plain hgd fun _ hk' => wp_invoke1 x y name ts ho hx hy h (fun w' hf => hk' _ _ (hK w' hf))
theorem wp_invoke2 (x y y' : Operand) (name : String) (ts : Array TypeId) (ho : o.op = .call { callee := .invoke x name, args := #[y, y'], argTypes := ts }) {v u u' z : Value} (hx : a.eval x = v) (hy : a.eval y = u) (hy' : a.eval y' = u') (h : Ans w v name #[u, u'] z)
    (hK : ∀ w', Fr (fun _ => False) w w' → K (a.put o.dst z) w') : o.wp Try.prog a w K Q := by
  obtain ⟨g, xs, hr, hc⟩ := h
  unfold Oper.wp
  simp only [execOp, ho, resolve, hx, hy, hy', List.map_toArray, List.map_cons, List.map_nil, Sem.run_bind, Sem.run_pure, Result.andThen, invoke]
  have e : (callMethod v name ((#[v] ++ #[u, u']).extract 1 (#[v] ++ #[u, u']).size)).run Try.prog w = .ok (.enter g xs) w := hr w
  rw [show (#[v] ++ [u, u'].toArray : Array Value)[0]? = some v from rfl]
  simp only
  erw [e]
  rw [Oper.upon_enter]
  refine hc.mono ?_
  rintro e' w' ⟨rfl, hf⟩
  exact hK w' hf
theorem wpList_invoke2 (hgd : o.guard = none) (x y y' : Operand) (name : String) (ts : Array TypeId) (ho : o.op = .call { callee := .invoke x name, args := #[y, y'], argTypes := ts }) {v u u' z : Value} (hx : a.eval x = v) (hy : a.eval y = u) (hy' : a.eval y' = u') (h : Ans w v name #[u, u'] z)
    (hK : ∀ w', Fr (fun _ => False) w w' → wpList Try.prog ops Q rest (a.put o.dst z) w') : wpList Try.prog ops Q (o :: rest) a w :=
  wpList_plain hgd fun _ hk' => wp_invoke2 x y y' name ts ho hx hy hy' h (fun w' hf => hk' _ _ (hK w' hf))
end
end Go.Proofs.Ytcnnibhipjkgiaa
