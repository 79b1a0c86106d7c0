import Derived.Test.YtkbojechhmmkcaaGreatDoorK52
import Derived.Test.YtkbojechhmmkcaaGreatDoorK53
import Derived.Test.YtkbojechhmmkcaaGreatDoorK54
import Derived.Test.YtkbojechhmmkcaaGreatDoorK55
set_option linter.unusedVariables false
set_option linter.unusedSimpArgs false
namespace Edt
theorem Zbf {c n:Nat} (h:(List.range 25).all (fun i=>tOk (i+c))=true) (h1:c≤n) (h2:n<c+25):tOk n=true:=by
 have h3:=Ybt.1 h (n-c) (Ycm.2 (by omega))
 rwa [Nat.sub_add_cancel h1]at h3
theorem Zazt (n:Nat) (h:n<1000):tOk n=true:=
 if h0:n<25 then Zbf Zbdx (by omega) (by omega)else
 if h1:n<50 then Zbf Zbdy (by omega) (by omega)else
 if h2:n<75 then Zbf Zbdz (by omega) (by omega)else
 if h3:n<100 then Zbf Zbea (by omega) (by omega)else
 if h4:n<125 then Zbf Zbeb (by omega) (by omega)else
 if h5:n<150 then Zbf Zbec (by omega) (by omega)else
 if h6:n<175 then Zbf Zbed (by omega) (by omega)else
 if h7:n<200 then Zbf Zbee (by omega) (by omega)else
 if h8:n<225 then Zbf Zbef (by omega) (by omega)else
 if h9:n<250 then Zbf Zbeg (by omega) (by omega)else
 if h10:n<275 then Zbf Zbeh (by omega) (by omega)else
 if h11:n<300 then Zbf Zbei (by omega) (by omega)else
 if h12:n<325 then Zbf Zbej (by omega) (by omega)else
 if h13:n<350 then Zbf Zbek (by omega) (by omega)else
 if h14:n<375 then Zbf Zbel (by omega) (by omega)else
 if h15:n<400 then Zbf Zbem (by omega) (by omega)else
 if h16:n<425 then Zbf Zben (by omega) (by omega)else
 if h17:n<450 then Zbf Zbeo (by omega) (by omega)else
 if h18:n<475 then Zbf Zbep (by omega) (by omega)else
 if h19:n<500 then Zbf Zbeq (by omega) (by omega)else
 if h20:n<525 then Zbf Zber (by omega) (by omega)else
 if h21:n<550 then Zbf Zbes (by omega) (by omega)else
 if h22:n<575 then Zbf Zbet (by omega) (by omega)else
 if h23:n<600 then Zbf Zbeu (by omega) (by omega)else
 if h24:n<625 then Zbf Zbev (by omega) (by omega)else
 if h25:n<650 then Zbf Zbew (by omega) (by omega)else
 if h26:n<675 then Zbf Zbex (by omega) (by omega)else
 if h27:n<700 then Zbf Zbey (by omega) (by omega)else
 if h28:n<725 then Zbf Zbez (by omega) (by omega)else
 if h29:n<750 then Zbf Zbfa (by omega) (by omega)else
 if h30:n<775 then Zbf Zbfb (by omega) (by omega)else
 if h31:n<800 then Zbf Zbfc (by omega) (by omega)else
 if h32:n<825 then Zbf Zbfd (by omega) (by omega)else
 if h33:n<850 then Zbf Zbfe (by omega) (by omega)else
 if h34:n<875 then Zbf Zbff (by omega) (by omega)else
 if h35:n<900 then Zbf Zbfg (by omega) (by omega)else
 if h36:n<925 then Zbf Zbfh (by omega) (by omega)else
 if h37:n<950 then Zbf Zbfi (by omega) (by omega)else
 if h38:n<975 then Zbf Zbfj (by omega) (by omega)else
 Zbf Zbfk (by omega) (by omega)
end Edt
