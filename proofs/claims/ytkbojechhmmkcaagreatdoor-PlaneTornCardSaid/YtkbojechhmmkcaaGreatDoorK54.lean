import Derived.Test.YtkbojechhmmkcaaGreatDoorK35
set_option linter.unusedVariables false
set_option linter.unusedSimpArgs false
set_option maxHeartbeats 16000000
set_option maxRecDepth 100000
namespace Edt
theorem Zber:(List.range 25).all (fun i=>tOk (i+500))=true:=by decide+kernel
theorem Zbes:(List.range 25).all (fun i=>tOk (i+525))=true:=by decide+kernel
theorem Zbet:(List.range 25).all (fun i=>tOk (i+550))=true:=by decide+kernel
theorem Zbeu:(List.range 25).all (fun i=>tOk (i+575))=true:=by decide+kernel
theorem Zbev:(List.range 25).all (fun i=>tOk (i+600))=true:=by decide+kernel
theorem Zbew:(List.range 25).all (fun i=>tOk (i+625))=true:=by decide+kernel
theorem Zbex:(List.range 25).all (fun i=>tOk (i+650))=true:=by decide+kernel
theorem Zbey:(List.range 25).all (fun i=>tOk (i+675))=true:=by decide+kernel
theorem Zbez:(List.range 25).all (fun i=>tOk (i+700))=true:=by decide+kernel
theorem Zbfa:(List.range 25).all (fun i=>tOk (i+725))=true:=by decide+kernel
end Edt
