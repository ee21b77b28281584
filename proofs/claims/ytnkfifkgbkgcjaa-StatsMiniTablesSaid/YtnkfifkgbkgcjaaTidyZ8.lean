/-
  The base layer: a nil slice that is returned, as an empty row of the caller's own.
-/
import Derived.Test.YtnkfifkgbkgcjaaTidyZ7
namespace Go.Tidy
theorem FinP.nilOwn {k0 sz gen : Nat} {L : List Blk} {k : V → List Blk → Prop} (hsz : 0 < sz) (h : k (.own L.length gen 0 0) (L ++ [.row gen sz []])) : FinP k0 .nil L k := by
  unfold FinP
  refine ⟨.own L.length gen 0 0, L ++ [.row gen sz []], fun g w v hg hk0 hv => ?_, h⟩
  cases hv with
  | nil =>
    have hp := add_prog hg (Ext.refl w) (.row gen sz []) none (fun q h => by cases h) 0
    exact ⟨g.add L.length none 0, add_good hg (Ext.refl w) none (fun q h => by cases h) 0 ⟨hsz, by simp, .inl ⟨by simp [Gh.add], rfl⟩⟩, .ownN _ _ sz [] (by simp) (by simp [Gh.add]), hp.le hk0 (Nat.le_refl _)⟩
end Go.Tidy
