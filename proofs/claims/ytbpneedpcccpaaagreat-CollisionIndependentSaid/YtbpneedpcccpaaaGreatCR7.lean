/- The touching pairs that contain no body of one arm do not depend on the joint values of that arm. -/
import Derived.Test.YtbpneedpcccpaaaGreatRows
import Derived.Test.YtbpneedpcccpaaaGreatPart3
import Derived.Test.YtbpneedpcccpaaaGreatCKMR
import Derived.Test.YtbpneedpcccpaaaGreatCOR
set_option maxRecDepth 100000
set_option maxHeartbeats 4000000
set_option linter.unusedSimpArgs false
set_option linter.unusedVariables false
namespace Go.Proofs.YtbpneedpcccpaaaGreat
open Go Go.Zv
def tys7 : List (Bool × Ty):=[(true,tCell),(true,tRaw),(true,tB3),(false,.int .u8)]
theorem row7 (args : List LV) (h : HasAll tys7 args) : pc E 7 args = some (.bool true):=by
 obtain ⟨x1,r1,rfl,⟨d1,rfl,k1⟩,x2,r2,rfl,⟨d2,rfl,k2⟩,x3,r3,rfl,⟨d3,rfl,k3⟩,x4,r4,rfl,⟨n,hn,n1,n2⟩,rfl⟩:=h
 cases hn
 obtain ⟨c,rfl⟩:=has_cell k1
 obtain ⟨x,rfl,X⟩:=has_raw k2
 obtain ⟨a,b,e,rfl,h0,h1,h2⟩:=has_b3 k3
 exact law7 c x a b e n c10 X h0 h1 h2 (u8_rng n1 n2)
theorem lifted7 (os : Os) (started : os.Started) (H : Type) (enc : TypeId × Value → H) :
  ReturnsInHanded {} Tryz.checked os 7 .any (Rows.collisionIndependentSpec.pre6 enc Tryz.prog Tryz.f7 Rows.collisionIndependentRow.domain false) (Rows.collisionIndependentSpec.post enc Tryz.prog Tryz.f7 false true false false):=by
 refine returnsInHanded_of_change (C:=Tryz.checked) own started (by kernel_rfl) Tryz.func7
  (ChangeSpec.witness6 (enc:=enc) (C:=Tryz.checked) false ⟨#[],#[.agg #[.int .i64 0,.int .i64 0,.int .i64 0,.int .i64 0,.int .i64 0,.int .i64 0,.int .i64 0,.int .i64 0,.int .i64 0,.int .i64 0,.int .i64 0,.int .i64 0,.int .i64 0,.int .i64 0,.int .i64 0,.int .i64 0,.int .i64 0,.int .i64 0,.int .i64 0,.int .i64 0,.int .i64 0,.int .i64 0,.int .i64 0,.int .i64 0,.int .i64 0,.int .i64 0,.int .i64 0,.int .i64 0,.int .i64 0,.int .i64 0,.slice none 0 0,.slice none 0 0,.slice none 0 0,.slice none 0 0,.int .i64 0,.int .i64 0,.int .i64 0,.int .i64 0,.int .i64 0,.int .i64 0,.int .i64 0,.slice none 0 0,.int .i64 0,.int .i64 0],.agg #[.int .u8 0,.int .u8 0,.int .u8 0,.int .u8 0,.int .u8 0,.int .u8 0,.int .u8 0,.int .u8 0,.slice none 0 0],.agg #[.int .u8 0,.int .u8 0,.int .u8 0],.int .u8 0],[]⟩ 8 (by kernel_rfl) (by kernel_rfl) (by kernel_rfl) (by kernel_rfl)) ?_
 intro W base args ds gs before hval hW _ _
 exact law_contract (C:=Tryz.checked) (tys:=tys7) (tb:=4) mixed E_ok laid (by kernel_rfl) (by kernel_rfl) Tryz.underlying4 (by kernel_rfl) row7 rfl (fun ds h=>by
  have h : ds.length = 4:=h
  match ds,h with
  | [d1,d2,d3,d4],_=>rfl) W base args ds gs before hval hW
theorem named7 : Tryz.pinned.checked.prog.funcNamed Rows.collisionIndependentRow.func = some 7:=by kernel_rfl
theorem joined7 : joinedFacts Tryz.prog 7 Tryz.f7 Rows.collisionIndependentSpec Rows.collisionIndependentRow = true:=by
 rw [joinedFacts.eq_1,enters_,lifts_,make_]
 kernel_rfl
theorem collisionIndependent : Rows.CollisionIndependentSaid :=
 OpenClaim.holds_of_wide 7 Tryz.f7 rfl rfl rfl rfl rfl rfl rfl ⟨rfl,rfl,rfl,rfl,rfl⟩ rfl rfl rfl rfl rfl named7 Tryz.func7 joined7
  (of_decide_eq_true (by kernel_rfl)) (by unfold Func.isWrapper; first | (rw [if_pos (by decide +kernel)]; kernel_rfl) | (rw [if_neg (by decide +kernel)]; exact ⟨rfl,rfl⟩))
  (fun os started H enc _=>lifted7 os started H enc)
#print axioms collisionIndependent
end Go.Proofs.YtbpneedpcccpaaaGreat
