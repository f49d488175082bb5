/-
  The reference's Once of layer 16, of any constraint that Check has let by.
-/
import Derived.Test.YtajooiainglpmaaGreatKonce12
import Derived.Test.YtajooiainglpmaaGreatKonce13
import Derived.Test.YtajooiainglpmaaGreatKonce14
namespace Go.Proofs.YtajooiainglpmaaGreat
open Go.RowKit

theorem refOnce_all (p : PL) (va vb vv vds : Value) (ds : Ds) (w : World) (h0 : IsAt w va p.coef) (h1 : IsAt w vb p.vars) (h2 : IsAt w vv p.vs) (hd : DsAt w vds ds)
    (hf : p.Fine ds) (hdl : ds.length ≤ 4096) (hdm : ∀ d ∈ ds, d.length ≤ 4096) (hl1 : p.vars.length ≤ 4095) (hl2 : p.vs.length ≤ 4095) :
    Calls Tryz.prog 13 #[propV p.kind va vb p.rel p.c p.x p.y p.z vv, vds] w (RetO (onceP p ds) w) := by
  obtain ⟨kind, rel, c, x, y, z, coef, vars, vs⟩ := p
  dsimp only at h0 h1 h2 hl1 hl2 ⊢
  have hk := hf.kind
  dsimp only at hk
  rcases hk with rfl | rfl | rfl | rfl
  · exact refOnce1_c va vb vv vds rel c x y z coef vars vs ds w h0 h1 h2 hd hf hdl hdm hl1 hl2
  · exact refOnce2_c va vb vv vds rel c x y z coef vars vs ds w h0 h1 h2 hd hf hdl hdm hl1 hl2
  · exact refOnce3_c va vb vv vds rel c x y z coef vars vs ds w h0 h1 h2 hd hf hdl hdm hl1 hl2
  · exact refOnce4_c va vb vv vds rel c x y z coef vars vs ds w h0 h1 h2 hd hf hdl hdm hl1 hl2
end Go.Proofs.YtajooiainglpmaaGreat
